/- Part of the proof. -/
import Derived.Test.YtpgbgclphjgdbaaCD
import Derived.Test.YtpgbgclphjgdbaaAbQ
set_option linter.unusedSimpArgs false
set_option linter.unusedVariables false
set_option maxHeartbeats 4000000
namespace Go.Ab
open Go Go.Ab Go.Proofs Go.Ab.Ty

/-! ### others -/
theorem others11_b : Fn Try.prog 101 [nB 43 1, .iptr (nB 43 0) 0] (.bool false) := by
  have i1 := same_b 43 1 43 0 false (by simp [samH])
  refine Fn.intro' [(0, nB 43 1), (1, .iptr (nB 43 0) 0)] 2 7 Try.func101 (by kernel_rfl) rfl rfl rfl rfl rfl ?_
  refine goB ?_
  refine callA (i1) ?_
  refine goB ?_
  exact Ret.bool rfl (by simp)
abbrev ipL : AV := .iptr (.lst [nB 43 1]) 0
theorem others1_b : Fn Try.prog 100 [nB 43 0, ipL] (.bool false) := by
  refine Fn.intro' [(0, nB 43 0), (1, ipL)] 2 7 Try.func100 (by kernel_rfl) rfl rfl rfl rfl rfl ?_
  refine goB ?_
  refine ARun.q1 rfl rfl (ql_callM (args := [.lst [nB 43 1], .clo 101 [.iptr (nB 43 0) 0]]) rfl (by simp +decide only [go_sem] <;> rfl) (by simp +decide only [go_sem, List.map]; exact ⟨.pu (Pu_l1B 43 1), .clo' ⟨.iptr rfl rfl rfl (LendL_nB 43 0), trivial⟩, trivial⟩) (.base _) (conF1_b 43 1 101 [.iptr (nB 43 0) 0] false (by simpa using Pu_ipB 43 0) others11_b)) ?_
  refine goB ?_
  exact Ret.bool rfl (by simp)
theorem others_b : Fn Try.prog 86 [mA, bT, .lst [nB 43 1]] (.tup [nB 43 0, .bool true]) := by
  have i1 := cases_b
  have i2 := others1_b
  refine Fn.intro' [(0, mA), (1, bT), (2, .lst [nB 43 1])] 3 92 Try.func86 (by kernel_rfl) rfl rfl rfl rfl rfl ?_
  refine goB ?_
  refine callA (i1) ?_
  refine goB ?_
  refine iff_ ?_ ?_ rfl
  rotate_left
  · rfl
  refine goB ?_
  refine ift_ ?_ ?_ rfl
  rotate_left
  · rfl
  refine goB ?_
  refine AWp.turn ?_
  refine goB ?_
  refine ift_ ?_ ?_ rfl
  rotate_left
  · rfl
  refine goB ?_
  refine bldA pl27 zero27 ?_
  refine goB ?_
  refine ARun.q1 rfl rfl (ql_callM (args := [nB 43 0, ipL]) rfl (by simp +decide only [go_sem] <;> rfl) (by simp +decide only [go_sem, List.map]; exact ⟨.agg' ⟨.pu (.base _), .pu (.base _), .pu (.base _), .pu (.base _), .pu (.base _), .pu (.base _), .nilS, .nilS, .nilS, .pu (.base _), trivial⟩, .iptr rfl rfl rfl ⟨.pu (Pu_l1B 43 1), trivial⟩, trivial⟩) (.base _) i2) ?_
  refine goB ?_
  refine ift_ ?_ ?_ rfl
  rotate_left
  · rfl
  refine goB ?_
  exact ⟨[.agg [.int 43, str ByteArray.empty, .int 0, .int 0, str ByteArray.empty, .int 0, nilV, nilV, nilV, .int 0], .bool true], by kernel_rfl, PubR.tup' ⟨PubR.agg' ⟨.pu (.base _), .pu (.base _), .pu (.base _), .pu (.base _), .pu (.base _), .pu (.base _), .nilS, .nilS, .nilS, .pu (.base _), trivial⟩, .pu (.base _), trivial⟩⟩
/-! ### missing -/
@[simp] theorem Pu_lbT : Pu (.lst [bT]) := Pu_mapT [.mk 2 ByteArray.empty 0 []]
@[simp] theorem Pu_ipm : Pu (.iptr mA 0) := .iptr fun c hc => by
  simp only [AV.cells, List.mem_cons, List.not_mem_nil, or_false, or_self] at hc; subst hc; exact Pu_nil
@[simp] theorem Pu_ipb : Pu (.iptr bT 0) := .iptr (Pu_T (.mk 2 ByteArray.empty 0 []))
@[simp] theorem Pu_ipT : Pu ipT := .iptr fun c hc => by
  simp only [AV.cells, List.mem_singleton] at hc; subst hc; exact Pu_lbT
@[simp] theorem Pu_ipQ : Pu ipQ := .iptr fun c hc => by
  simp only [AV.cells, List.mem_singleton] at hc; subst hc; exact Pu_l1B 40 0
@[simp] theorem Pu_ipR : Pu ipR := .iptr fun c hc => by
  simp only [AV.cells, List.mem_singleton] at hc; subst hc; exact Pu_ll 43 1
@[simp] theorem Pu_c78 : Pu (.clo 78 [ipT, ipQ, .iptr mA 0, ipR]) := .clo (by simp)
@[simp] theorem Pu_c82 : Pu (.clo 82 [.iptr mA 0, .iptr bT 0]) := .clo (by simp)
theorem missing_b : Fn Try.prog 67 [mA, .lst [bT], .lst [.lst [nB 43 1]], .lst [nB 40 0]] (.tup [.lst [nB 43 0], .bool true]) := by
  have i1 := isWild_b 40 0
  have i2 := heads_b
  have i3 := payload_b
  have i4 := into_b
  have i5 := others_b
  have i6 := splitB_b
  have i7 := miss1_b
  refine Fn.intro' [(0, mA), (1, .lst [bT]), (2, .lst [.lst [nB 43 1]]), (3, .lst [nB 40 0])] 4 135 Try.func67 (by kernel_rfl) rfl rfl rfl rfl rfl ?_
  refine goB ?_
  refine iff_ ?_ ?_ rfl
  rotate_left
  · rfl
  refine goB ?_
  refine ARun.q1 rfl rfl (ql_indexAddr_lst rfl rfl Try.underlying23 (by omega) (e := bT) rfl (by kernel_rfl)) ?_
  refine goB ?_
  refine ARun.q1 rfl rfl (ql_indexAddr_lst rfl rfl Try.underlying22 (by omega) (e := nB 40 0) rfl (by kernel_rfl)) ?_
  refine goB ?_
  refine callA (i1) ?_
  refine goB ?_
  refine iff_ ?_ ?_ rfl
  rotate_left
  · rfl
  refine goB ?_
  refine callA (i2) ?_
  refine goB ?_
  refine iff_ ?_ ?_ rfl
  rotate_left
  · rfl
  refine goB ?_
  have pm : ∀ {k b : Nat} {H : List ABlk}, pre k b = none → H[b]? = some ⟨38, 4, [mA]⟩ → Pub H k (.ptr b 1 0 0) (.iptr mA 0) := fun hk h => PubR.iptr hk h rfl rfl ⟨.pu Pu_nil, .pu Pu_nil, .pu Pu_nil, .pu Pu_nil, trivial⟩
  have pT : ∀ {k b : Nat} {H : List ABlk}, pre k b = none → H[b]? = some ⟨23, 1, [.lst [bT]]⟩ → Pub H k (.ptr b 1 0 0) ipT := fun hk h => PubR.iptr hk h rfl rfl ⟨.pu Pu_lbT, trivial⟩
  have pR : ∀ {k b : Nat} {H : List ABlk}, pre k b = none → H[b]? = some ⟨129, 1, [.lst [.lst [nB 43 1]]]⟩ → Pub H k (.ptr b 1 0 0) ipR := fun hk h => PubR.iptr hk h rfl rfl ⟨.pu (Pu_ll 43 1), trivial⟩
  have pQ : ∀ {k b : Nat} {H : List ABlk}, pre k b = none → H[b]? = some ⟨22, 1, [.lst [nB 40 0]]⟩ → Pub H k (.ptr b 1 0 0) ipQ := fun hk h => PubR.iptr hk h rfl rfl ⟨.pu (Pu_l1B 40 0), trivial⟩
  have pb : ∀ {k b : Nat} {H : List ABlk}, pre k b = none → H[b]? = some ⟨25, 4, [bT]⟩ → Pub H k (.ptr b 1 0 0) (.iptr bT 0) := fun hk h => PubR.iptr hk h rfl rfl ⟨.pu (.base _), .pu (.base _), .pu (.base _), .pu Pu_nil, trivial⟩
  refine AWp.weaken (Wk.trimM (E2 := [(4, .iptr mA 0), (5, ipT), (6, ipR), (7, ipQ), (10, .iptr bT 0), (11, .clo 78 [ipT, ipQ, .iptr mA 0, ipR]), (12, .clo 82 [.iptr mA 0, .iptr bT 0]), (13, .lst [nB 43 1]), (93, .lst [nB 43 1]), (94, .int 1), (95, .int 0)]) (H2 := []) 0 (Nat.zero_le _) rfl ⟨pm rfl rfl, pT rfl rfl, pR rfl rfl, pQ rfl rfl, pb rfl rfl, PubR.clo' ⟨pT rfl rfl, pQ rfl rfl, pm rfl rfl, pR rfl rfl, trivial⟩, PubR.clo' ⟨pm rfl rfl, pb rfl rfl, trivial⟩, .pu (Pu_l1B 43 1), .pu (Pu_l1B 43 1), .pu (.base _), .pu (.base _), trivial⟩ (by simp)) ?_
  refine AWp.turn ?_
  refine goB ?_
  refine ift_ ?_ ?_ rfl
  rotate_left
  · rfl
  refine goB ?_
  refine ARun.q1 rfl rfl (ql_indexAddr_lst rfl rfl Try.underlying22 (by omega) (e := nB 43 1) rfl (by kernel_rfl)) ?_
  refine goB ?_
  refine drA (k := 10) follows (hr := ?_)
  refine goB ?_
  refine ARun.q1 rfl rfl (ql_callC i3 rfl (by simp +decide only [go_sem] <;> rfl) rfl (by simp)) ?_
  refine goB ?_
  refine ARun.q1 rfl rfl (ql_callC i4 rfl (by simp +decide only [go_sem] <;> rfl) rfl (by simp)) ?_
  refine goB ?_
  refine iff_ ?_ ?_ rfl
  rotate_left
  · rfl
  refine goB ?_
  refine AWpI.turn ?_
  refine goB ?_
  refine iff_ ?_ ?_ rfl
  rotate_left
  · rfl
  refine goB ?_
  refine callA (i5) ?_
  refine goB ?_
  refine ift_ ?_ ?_ rfl
  rotate_left
  · rfl
  refine keF [4, 5, 6, 7, 20] ?_
  refine goB ?_
  refine drA (k := 12) follows (hr := ?_)
  refine goB ?_
  refine ARun.q1 rfl rfl (ql_slice_lst (l := 1) (h := 1) (es := [bT]) (by simp +decide only [go_sem] <;> rfl) Try.underlying23 (by rfl) (by rfl) (by decide) (by simp) sz25 (fun e he => by rw [List.mem_singleton] at he; subst he; rfl)) ?_
  refine goB ?_
  refine callA (i6) ?_
  refine goB ?_
  refine ARun.q1 rfl rfl (ql_slice_lst (l := 1) (h := 1) (es := [nB 40 0]) (by simp +decide only [go_sem] <;> rfl) Try.underlying22 (by rfl) (by rfl) (by decide) (by simp) sz27 (fun e he => by rw [List.mem_singleton] at he; subst he; rfl)) ?_
  refine goB ?_
  refine ARun.q1 rfl rfl (ql_callC i7 rfl (by simp +decide only [go_sem] <;> rfl) rfl (by simp)) ?_
  refine goB ?_
  refine ift_ ?_ ?_ rfl
  rotate_left
  · rfl
  refine goB ?_
  refine ARun.q1 rfl rfl (ql_append_data (by simp +decide only [go_sem] <;> rfl) (by simp +decide only [go_sem] <;> rfl) (.inr rfl) Try.underlying22 el27) ?_
  refine goB ?_
  exact ⟨[.lst [nB 43 0], .bool true], by kernel_rfl, .pu (.tup fun c hc => by
    simp only [List.mem_cons, List.not_mem_nil, or_false] at hc
    rcases hc with rfl | rfl
    · exact Pu_l1B 43 0
    · exact .base _)⟩
/-! ### gap, Missing, First -/
theorem PuB1 {e : AV} (h : ∀ c ∈ e.cells, Pu c) : ∀ x ∈ [e], ∀ c ∈ x.cells, Pu c := fun x hx c hc => by
  rw [List.mem_singleton] at hx; subst hx; exact h c hc
theorem Pu_cm : ∀ c ∈ mA.cells, Pu c := fun c hc => by
  simp only [AV.cells, List.mem_cons, List.not_mem_nil, or_false, or_self] at hc; subst hc; exact Pu_nil
theorem Pu_cb : ∀ c ∈ bT.cells, Pu c := Pu_T (.mk 2 ByteArray.empty 0 [])
abbrev zNod : AV := (.agg [.base (.int .i64 (0)), .base (.string ByteArray.empty), .base (.int .i64 (0)), .base (.int .i64 (0)), .base (.string ByteArray.empty), .base (.int .i64 (0)), .base (.slice none 0 0), .base (.slice none 0 0), .base (.slice none 0 0), .base (.int .i64 (0))])
theorem Pu_cz : ∀ c ∈ zNod.cells, Pu c := by simp [AV.cells]
theorem gap_b : Fn Try.prog 36 [mA, bT, .lst [nB 43 1], nB 40 0] (.tup [nB 43 0, .bool true]) := by
  have i1 := missing_b
  refine Fn.intro' [(0, mA), (1, bT), (2, .lst [nB 43 1]), (3, nB 40 0)] 4 43 Try.func36 (by kernel_rfl) rfl rfl rfl rfl rfl ?_
  refine goB ?_
  refine AWp.turn ?_
  refine goB ?_
  refine ift_ ?_ ?_ rfl
  rotate_left
  · rfl
  refine goB ?_
  refine ARun.q1 rfl rfl (ql_indexAddr_lst rfl rfl Try.underlying22 (by omega) (e := nB 43 1) rfl (by kernel_rfl)) ?_
  refine goB ?_
  refine ARun.p1 rfl rfl (pl_append_nil (es := [.lst [nB 43 1]]) (by simp +decide only [go_sem] <;> rfl) (by simp +decide only [go_sem] <;> rfl) Try.underlying129 el22 (fun e he => by rw [List.mem_singleton] at he; subst he; exact ⟨rfl, rfl⟩) (by simp) (by simp)) ?_
  refine goB ?_
  refine AWpI.turn ?_
  refine AWp.weaken (Wk.trimM (E2 := [(4, .ptr 0 1 0 0), (5, .ptr 1 1 0 0), (7, .ptr 2 1 0 0), (8, .ptr 3 1 0 0), (10, .lst [.lst [nB 43 1]]), (16, .int 1), (17, .int 1)]) (H2 := [⟨38, 4, [mA]⟩, ⟨25, 4, [bT]⟩, ⟨27, 10, [nB 40 0]⟩, ⟨27, 10, [zNod]⟩]) 4 (Nat.zero_le _) rfl ⟨.ptr (by decide), .ptr (by decide), .ptr (by decide), .ptr (by decide), .ownM (f := id) (l := [.lst [nB 43 1]]) (by decide) rfl rfl (fun x hx c hc => by rw [List.mem_singleton] at hx; subst hx; simp only [id, AV.cells, List.mem_singleton] at hc; subst hc; exact Pu_l1B 43 1), .pu (.base _), .pu (.base _), trivial⟩ (pubB (.cons (PuB1 Pu_cm) (.cons (PuB1 Pu_cb) (.cons (PuB1 (Pu_cB 40 0)) (.cons (PuB1 Pu_cz) .nil)))))) ?_
  refine goB ?_
  refine iff_ ?_ ?_ rfl
  rotate_left
  · rfl
  refine goB ?_
  refine callA (i1) ?_
  refine goB ?_
  refine iff_ ?_ ?_ rfl
  rotate_left
  · rfl
  refine goB ?_
  refine ARun.q1 rfl rfl (ql_indexAddr_lst rfl rfl Try.underlying22 (by omega) (e := nB 43 0) rfl (by kernel_rfl)) ?_
  refine goB ?_
  exact ⟨[nB 43 0, .bool true], by kernel_rfl, .pu (.tup fun c hc => by
    simp only [List.mem_cons, List.not_mem_nil, or_false] at hc
    rcases hc with rfl | rfl
    · exact Pu_nB 43 0
    · exact .base _)⟩
theorem storeN {ρ : Operand → AV} {x y : Operand} {a b c : ABlk} (hx : ρ x = .ptr 3 1 0 0) (hy : ρ y = nB 43 0) : PL Try.prog [a, b, c, ⟨27, 10, [zNod]⟩] ρ (.store 27 x y) .bad [a, b, c, ⟨27, 10, [nB 43 0]⟩] :=
  pl_store (b := 3) (tot := 1) (i := 0) (off := 0) (blk := ⟨27, 10, [zNod]⟩) (v := nB 43 0) hx hy rfl rfl rfl sz27 rfl rfl
theorem Missing_b : Fn Try.prog 15 [mA, bT, .lst [nB 43 1]] (.tup [nB 43 0, .bool true, .int 0]) := by
  have i1 := right_b
  have i2 := wild_b
  have i3 := gap_b
  refine Fn.intro' [(0, mA), (1, bT), (2, .lst [nB 43 1])] 3 30 Try.func15 (by kernel_rfl) rfl rfl rfl rfl rfl ?_
  refine goB ?_
  refine callA (i1) ?_
  refine goB ?_
  refine iff_ ?_ ?_ rfl
  rotate_left
  · rfl
  refine goB ?_
  refine keF [2, 3, 4, 6, 7, 8] ?_
  refine (show AWp Try.prog _ _ _ ⟨[(2, .lst [nB 43 1]), (3, .ptr 0 1 0 0), (4, .ptr 1 1 0 0), (6, .ptr 2 1 0 0), (7, .bool false), (8, .int 0)], [⟨38, 4, [mA]⟩, ⟨25, 4, [bT]⟩, ⟨27, 10, [zNod]⟩]⟩ from ?_)
  with_reducible apply AWp.drawMK (k := 10) [none, none, none, none, none, none, none, none, some 0, some 1] [[0, 1], [0, 1], [0, 1], [0, 1], [0, 1], [0, 1], [0, 1], [0, 1, 2, 3], [0], [1]] (fun S => match S with
    | 0 => [⟨38, 4, [mA]⟩, ⟨25, 4, [bT]⟩, ⟨27, 10, [zNod]⟩]
    | 1 => [⟨38, 4, [mA]⟩, ⟨25, 4, [bT]⟩, ⟨27, 10, [zNod]⟩, ⟨27, 10, [zNod]⟩]
    | _ => [⟨38, 4, [mA]⟩, ⟨25, 4, [bT]⟩, ⟨27, 10, [zNod]⟩, ⟨27, 10, [nB 43 0]⟩]) 2 follows
  · refine ⟨rfl, rfl, by kernel_rfl, by decide, ?_, ?_⟩
    · simp +decide only [go_sem, List.map, List.take]; rfl
    · simp +decide only [go_sem, List.map, List.drop]; rfl
  · kernel_rfl
  · rfl
  refine MRun.q1 (v := mA) rfl rfl (fun S hS => ql_fun (by simp only [List.mem_cons, List.not_mem_nil, or_false] at hS; rcases hS with rfl | rfl <;> (simp +decide only [go_sem] <;> rfl))) ?_
  refine MRun.q1 (v := bT) rfl rfl (fun S hS => ql_fun (by simp only [List.mem_cons, List.not_mem_nil, or_false] at hS; rcases hS with rfl | rfl <;> (simp +decide only [go_sem] <;> rfl))) ?_
  refine MRun.q1 (v := .lst [nB 43 1]) rfl rfl (fun S hS => ql_fun (by simp only [List.mem_cons, List.not_mem_nil, or_false] at hS; rcases hS with rfl | rfl <;> (simp +decide only [go_sem] <;> rfl))) ?_
  refine MRun.q1 (v := nB 40 0) rfl rfl (fun S hS => ql_callC i2 rfl rfl rfl (by simp)) ?_
  refine MRun.q1 (v := .tup [nB 43 0, .bool true]) rfl rfl (fun S hS => ql_callC i3 rfl rfl rfl (by simp)) ?_
  refine MRun.q1 (v := .tup [nB 43 0, .bool true]) rfl rfl (fun S hS => ql_fun rfl) ?_
  refine MRun.q1 (v := nB 43 0) rfl rfl (fun S hS => ql_fun rfl) ?_
  refine MRun.q1 (v := .bool true) rfl rfl (fun S hS => ql_fun rfl) ?_
  refine MRun.p1 (v := .ptr 3 1 0 0) rfl rfl (fun S hS ρ' h => by
    simp only [List.mem_cons, List.not_mem_nil, or_false] at hS; subst hS
    exact pl_alloc (H := [⟨38, 4, [mA]⟩, ⟨25, 4, [bT]⟩, ⟨27, 10, [zNod]⟩]) zero27 rfl (by decide)) ?_
  refine MRun.p1 (v := .bad) rfl rfl (fun S hS ρ' h => by
    simp only [List.mem_cons, List.not_mem_nil, or_false] at hS; subst hS
    exact storeN ((h (.tmp 10) (by simp [Op.operands])).trans (by simp +decide only [go_sem] <;> rfl)) ((h (.tmp 26) (by simp [Op.operands])).trans (by simp +decide only [go_sem] <;> rfl))) ?_
  refine MRun.nil ?_
  refine rcA ?_
  refine zOut ?_
  refine goB ?_
  exact ⟨[nB 43 0, .bool true, .int 0], by kernel_rfl, .pu (.tup fun c hc => by
    simp only [List.mem_cons, List.not_mem_nil, or_false] at hc
    rcases hc with rfl | rfl | rfl
    · exact Pu_nB 43 0
    · exact .base _
    · exact .base _)⟩
theorem First1_b : Fn Try.prog 31 [nB 40 0, .iptr (nB 43 0) 0] (.bool true) := by
  have i1 := matches_ok (.mk 40 ByteArray.empty 0 0 ByteArray.empty 0 [] [] [] 0) (.mk _ _ _ _ _ _ _ _ _ _ (by decide) (.mk _ _ _ _ (by decide) (by simp [maxLen]) (by simp)) (by simp [maxLen]) (by simp) (by simp [maxLen]) (by simp)) (.mk 43 ByteArray.empty 0 0 ByteArray.empty 0 [] [] [] 0)
  rw [mtc_mk, if_pos (by simp [wldO])] at i1
  have i1 : Fn Try.prog 17 [nB 40 0, nB 43 0] (.bool true) := i1
  refine Fn.intro' [(0, nB 40 0), (1, .iptr (nB 43 0) 0)] 2 7 Try.func31 (by kernel_rfl) rfl rfl rfl rfl rfl ?_
  refine goB ?_
  refine callA (i1) ?_
  refine goB ?_
  exact Ret.bool rfl (by simp)
theorem First_b : Fn Try.prog 9 [.lst [nB 40 0], nB 43 0] (.int 0) := by
  refine Fn.intro' [(0, .lst [nB 40 0]), (1, nB 43 0)] 2 8 Try.func9 (by kernel_rfl) rfl rfl rfl rfl rfl ?_
  refine goB ?_
  refine ARun.q1 rfl rfl (ql_callM (args := [.lst [nB 40 0], .clo 31 [.iptr (nB 43 0) 0]]) rfl (by simp +decide only [go_sem] <;> rfl) (by simp +decide only [go_sem, List.map]; exact ⟨.pu (Pu_l1B 40 0), .clo' ⟨.iptr rfl rfl rfl (LendL_nB 43 0), trivial⟩, trivial⟩) (.base _) (idxF1_b 40 0 31 [.iptr (nB 43 0) 0] true (by simpa using Pu_ipB 43 0) First1_b)) ?_
  refine goB ?_
  exact Ret.data rfl rfl (.base _)
theorem Le_rf {v : Value} : Le (.base v) (.base v) := Le.refl _
theorem leN (o n : Int) : LeL [.int o, str ByteArray.empty, .int n, .int 0, str ByteArray.empty, .int 0, nilV, nilV, nilV, .int 0] (nB o n).cells := ⟨Le_rf, Le_rf, Le_rf, Le_rf, Le_rf, Le_rf, Le.nil, Le.nil, Le.nil, Le_rf, trivial⟩
abbrev nC (o n : Int) : AV := .agg [.int o, str ByteArray.empty, .int n, .int 0, str ByteArray.empty, .int 0, nilV, nilV, nilV, .int 0]
@[simp] theorem Pu_nC1 (o n : Int) : Pu (.lst [nC o n]) := .lst fun e he c hc => by
  rw [List.mem_singleton] at he; subst he
  simp only [AV.cells, List.mem_cons, List.not_mem_nil, or_false] at hc
  rcases hc with rfl | rfl | rfl | rfl | rfl | rfl | rfl | rfl | rfl | rfl <;> exact .base _
@[simp] theorem Pu_mC : Pu (.agg [nilV, nilV, nilV, nilV]) := .agg (by simp)
@[simp] theorem Pu_bC : Pu (.agg [.int 2, str ByteArray.empty, .int 0, nilV]) := .agg (by simp)
theorem awake_true : Fn Try.prog 12 [] (.bool true) := by
  have i1 : Fn Try.prog 15 [.agg [nilV, nilV, nilV, nilV], .agg [.int 2, str ByteArray.empty, .int 0, nilV], .lst [nC 43 1]] (.tup [nB 43 0, .bool true, .int 0]) := Missing_b.le ⟨.aggL ⟨.nil, .nil, .nil, .nil, trivial⟩, .aggL ⟨Le_rf, Le_rf, Le_rf, .nil, trivial⟩, .lst1 (leN 43 1), trivial⟩
  have i2 : Fn Try.prog 9 [.lst [nC 40 0], nB 43 0] (.int 0) := First_b.le ⟨.lst1 (leN 40 0), Le.refl _, trivial⟩
  refine Fn.intro' [] 0 37 Try.func12 (by kernel_rfl) rfl rfl rfl rfl rfl ?_
  refine goB ?_
  refine bldA pl25 zero25 ?_
  refine goB ?_
  refine bldA pl38 zero38 ?_
  refine goB ?_
  refine bldA pl27 zero27 ?_
  refine goB ?_
  refine ARun.q1 rfl rfl (ql_callC i1 rfl (by simp +decide only [go_sem] <;> rfl) rfl (by simp)) ?_
  refine goB ?_
  refine gqA (v := nC 40 0) (h := fun hg => ql_build pl27 zero27 (by simp +decide only [List.map, go_sem, stripL] <;> rfl)) (hr := ?_)
  refine goB ?_
  refine gqA (v := .lst [nC 40 0]) (h := fun hg => ql_buildSlice (by decide) Try.underlying22 sz27 (by kernel_rfl) (by decide) (by (simp +decide only [List.map, go_sem, stripL] <;> rfl)) (by (simp +decide only [List.map, go_sem, stripL] <;> rfl)) rfl) (hr := ?_)
  refine goB ?_
  refine gqA (v := .int 0) (h := fun hg => ql_callC i2 rfl rfl rfl (by simp)) (hr := ?_)
  refine goB ?_
  exact Ret.bool rfl (by simp)
end Go.Ab
set_option maxHeartbeats 4000000
namespace Go.Ab
open Go Go.Ab Go.Proofs Go.Ab.Ty

/-! ### the law of pairs -/
@[simp] theorem Pu_l2N (o : Int) (s : ByteArray) (n tk : Int) (tm : ByteArray) (tn : Int) (ta ts : List Tp) (l : List Nd) (a : Int) (o' : Int) (s' : ByteArray) (n' tk' : Int) (tm' : ByteArray) (tn' : Int) (ta' ts' : List Tp) (l' : List Nd) (a' : Int) :
    Pu (.lst [agN o s n tk tm tn ta ts l a, agN o' s' n' tk' tm' tn' ta' ts' l' a']) := by
  have := Pu_mapN [.mk o s n tk tm tn ta ts l a, .mk o' s' n' tk' tm' tn' ta' ts' l' a']
  rwa [List.map_cons, List.map_cons, List.map_nil, encN_mk, encN_mk] at this
theorem law_pairs (x y : Nd) (hx : x.ok) (hy : y.ok) : Fn Try.prog 5 [encN x, encN y] (.bool true) := by
  have i1 := few_ok [x, y] (Nat.le_of_lt (by decide : 2 < maxLen)) (by simp [hx, hy])
  have i2 := matches_ok x hx y
  have i3 := apart_ok x hx y
  have i4 := refMatches_ok x hx y
  have i5 := refApart_ok x hx y
  have i6 := apart_ok y hy x
  have i7 := awake_true
  rw [apt_comm y x] at i6
  have h1 := mtc_apt x y
  generalize mtc x y = v at *
  generalize apt x y = w at *
  obtain ⟨o, s, n, tk, tm, tn, ta, ts, l, a⟩ := x
  obtain ⟨o', s', n', tk', tm', tn', ta', ts', l', a'⟩ := y
  rw [List.map_cons, List.map_cons, List.map_nil] at i1
  simp only [encN_mk] at i1 i2 i3 i4 i5 i6 ⊢
  refine Fn.intro' [(0, agN o s n tk tm tn ta ts l a), (1, agN o' s' n' tk' tm' tn' ta' ts' l' a')] 2 47 Try.func5 (by kernel_rfl) rfl rfl rfl rfl rfl ?_
  refine goA ?_
  refine bslA Try.underlying22 sz27 ?_
  refine callA (i1) ?_
  refine goB ?_
  refine ifA (fun hq => ?_) (fun hq => ?_)
  · refine goB ?_
    exact Ret.bool rfl (by simp)
  refine goB ?_
  refine drA (k := 6) follows (hr := ?_)
  refine goB ?_
  refine callA (i2) ?_
  refine goB ?_
  refine callA (i3) ?_
  refine goB ?_
  refine callA (i4) ?_
  refine goB ?_
  refine gcallA (i := fun hg => i5) (hr := ?_)
  refine goB ?_
  refine gcallA (i := fun hg => i6) (hr := ?_)
  refine goB ?_
  refine gcallA (i := fun hg => i7) (hr := ?_)
  refine goB ?_
  exact Ret.bool rfl (by cases v <;> cases w <;> simp_all)
end Go.Ab
