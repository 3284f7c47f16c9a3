/- Part of the proof. -/
import Derived.Test.YtjfahhbobiiphaaXW
import Derived.Test.YtjfahhbobiiphaaXM
import Derived.Test.YtjfahhbobiiphaaXC
import Derived.Test.YtjfahhbobiiphaaXN
import Derived.Test.YtjfahhbobiiphaaXO
import Derived.Test.YtjfahhbobiiphaaAbL
set_option linter.unusedSimpArgs false
set_option linter.unusedVariables false
-- fnh
set_option maxHeartbeats 4000000
namespace Go.Ab
open Go Go.Ab Go.Proofs Go.Ab.Ty

/-! ### derive -/
theorem wf_ok (r : Rx) (h : r.wf) : r.ok := by
  induction r using Rx.ind with
  | h o s l ih =>
  obtain ⟨hno, hl⟩ := wf_sub.1 h
  unfold nodeOk at hno
  refine .mk o s l ?_ ?_ fun x hx => ih x hx (hl x hx)
  · unfold maxLen; split at hno <;> omega
  · unfold maxLen; split at hno <;> omega
theorem drvC_len (c : UInt8) : ∀ l : List Rx, (drvC c l).length ≤ l.length
  | [] => by simp [drvC]
  | x :: l => by
    have := drvC_len c l
    rw [drvC]
    split
    · simp only [List.length_cons]; omega
    · simp
theorem drvs_wf {c : UInt8} {l : List Rx} (h : ∀ x ∈ l, x.wf) : ∀ y ∈ drvs c l, y.wf := fun y hy => by
  rw [drvs_map] at hy
  obtain ⟨x, hx, rfl⟩ := List.mem_map.1 hy
  exact drv_wf c x (h x hx)
theorem drvC_wf {c : UInt8} {l : List Rx} (h : ∀ x ∈ l, x.wf) : ∀ y ∈ drvC c l, y.wf := by
  induction l with
  | nil => simp [drvC]
  | cons x l ih =>
    intro y hy
    rw [drvC] at hy
    rcases List.mem_cons.1 hy with rfl | hy
    · refine catX_wf fun z hz => ?_
      rcases List.mem_cons.1 hz with rfl | hz
      · exact drv_wf c x (h x (by simp))
      · exact h z (by simp [hz])
    · split at hy
      · exact ih (fun z hz => h z (by simp [hz])) y hy
      · cases hy
theorem drv_big {c : UInt8} {r : Rx} (h1 : r.dep ≤ 12) (h2 : r.cnt ≤ 60) : (drvX c r).cnt ≤ 900000000000 := by
  refine Nat.le_trans (drv_cnt c r) ?_
  have : 5 ^ r.dep ≤ 5 ^ 12 := Nat.pow_le_pow_right (by omega) h1
  exact Nat.le_trans (Nat.mul_le_mul this (Nat.mul_le_mul h2 h2)) (by decide)
theorem list_big {c : UInt8} {l : List Rx} (h1 : deps l ≤ 11) (h2 : cnts l ≤ 59) : cnts (drvs c l) ≤ 900000000000 ∧ cnts (drvC c l) ≤ 900000000000 := by
  have ih : ∀ x ∈ l, (drvX c x).cnt ≤ 5 ^ 11 * (x.cnt * x.cnt) := fun x hx =>
    Nat.le_trans (drv_cnt c x) (Nat.mul_le_mul_right _ (Nat.pow_le_pow_right (by omega) (Nat.le_trans (dep_mem hx) h1)))
  have hs := drvs_cnt l ih
  have hc := drvC_cnt (by decide) l ih
  have h3 : 5 ^ 11 * (cnts l * cnts l) ≤ 5 ^ 11 * (59 * 59) := Nat.mul_le_mul_left _ (Nat.mul_le_mul h2 h2)
  have h4 : 5 ^ 11 * ((1 + cnts l) * (1 + cnts l)) ≤ 5 ^ 11 * (60 * 60) := Nat.mul_le_mul_left _ (Nat.mul_le_mul (by omega) (by omega))
  simp only [Nat.reducePow, Nat.reduceMul] at *
  constructor
  · omega
  · omega
theorem PuB_one (o : Int) (s : ByteArray) (l : List Rx) : ∀ e ∈ (⟨24, 3, [.agg [.int o, str s, .lst (l.map encX)]]⟩ : ABlk).es, ∀ c ∈ e.cells, Pu c := PuBlX o s l _ (List.mem_singleton.2 rfl)
theorem drvs_take {c : UInt8} {l : List Rx} {k : Nat} (h : k < l.length) : (drvs c l).take (k + 1) = (drvs c l).take k ++ [drvX c l[k]] := by
  rw [List.take_succ_eq_append_getElem (by rw [drvs_map, List.length_map]; exact h)]
  congr 2
  simp only [drvs_map, List.getElem_map]
theorem derive_ok (c : UInt8) (r : Rx) (hw : r.wf) (hd : r.dep ≤ 12) (hc : r.cnt ≤ 60) : Fn Try.prog 74 [encX r, chr c] (encX (drvX c r)) := by
  induction r using Rx.ind with
  | h o s l ih =>
  have hcx := cnt_mk o s l
  have hdx := dep_mk o s l
  obtain ⟨hno, hlw⟩ := wf_sub.1 hw
  have ih : ∀ x ∈ l, Fn Try.prog 74 [encX x, chr c] (encX (drvX c x)) := fun x hx => ih x hx (hlw x hx) (by have := dep_mem hx; omega) (by have := cnts_mem hx; omega)
  obtain ⟨b1, b2⟩ := list_big (c := c) (l := l) (by omega) (by omega)
  have hR : drvX c (.mk o s l) = drvX c (.mk o s l) := rfl
  conv at hR => rhs; rw [drvX]
  have hlen := lenL_cnts l
  rw [encX_mk]
  refine Fn.intro' [(0, .agg [.int o, str s, .lst (l.map encX)]), (1, chr c)] 2 104 Try.func74 (by kernel_rfl) rfl rfl rfl rfl rfl ?_
  unfold nodeOk at hno
  by_cases h3 : o = 3
  · subst h3
    rw [hR]
    simp only [if_pos rfl]
    have i1 := indexByte_ok s c
    refine goD ?_
    refine ift_ ?_
    refine goD ?_
    refine callA (i1) ?_
    refine goD ?_
    have hix := ixB_ge s c
    refine ifA (fun h => ?_) (fun h => ?_)
    · have h : ixB s c ≥ 0 := of_decide_eq_true h
      rw [if_pos (hix.1 h)]
      refine goD ?_
      refine bldA pl24 zero24 ?_
      refine goD ?_
      exact ⟨[.agg [.int 2, str ByteArray.empty, .base (.slice none 0 0)]], by kernel_rfl, Pub.agg' (show PubL _ 0 [_, _, _] [_, _, _] from ⟨.pu (.base _), .pu (.base _), .nilS, trivial⟩)⟩
    · have h := of_decide_eq_false h
      rw [if_neg (fun h2 => h (hix.2 h2))]
      refine goD ?_
      refine bldA pl24 zero24 ?_
      refine goD ?_
      exact ⟨[.agg [.int 1, str ByteArray.empty, .base (.slice none 0 0)]], by kernel_rfl, Pub.agg' (show PubL _ 0 [_, _, _] [_, _, _] from ⟨.pu (.base _), .pu (.base _), .nilS, trivial⟩)⟩
  rw [if_neg h3] at hno hR
  rcases hno.2 with ⟨h1 | h1, h2⟩ | ⟨h1 | h1 | h1, h2, h28⟩ | ⟨h1 | h1, h2⟩
  · subst h1
    rw [show drvX c (.mk 1 s l) = rxN by rw [hR, if_neg (by omega), if_neg (by omega), if_neg (by omega), if_neg (by omega)]]
    refine goD ?_
    refine iff_ ?_
    refine goD ?_
    refine iff_ ?_
    refine goD ?_
    refine iff_ ?_
    refine goD ?_
    refine iff_ ?_
    refine goD ?_
    refine iff_ ?_
    refine goD ?_
    refine iff_ ?_
    refine goD ?_
    refine bldA pl24 zero24 ?_
    refine goD ?_
    exact ⟨[.agg [.int 1, str ByteArray.empty, .base (.slice none 0 0)]], by kernel_rfl, Pub.agg' (show PubL _ 0 [_, _, _] [_, _, _] from ⟨.pu (.base _), .pu (.base _), .nilS, trivial⟩)⟩
  · subst h1
    rw [show drvX c (.mk 2 s l) = rxN by rw [hR, if_neg (by omega), if_neg (by omega), if_neg (by omega), if_neg (by omega)]]
    refine goD ?_
    refine iff_ ?_
    refine goD ?_
    refine iff_ ?_
    refine goD ?_
    refine iff_ ?_
    refine goD ?_
    refine iff_ ?_
    refine goD ?_
    refine iff_ ?_
    refine goD ?_
    refine iff_ ?_
    refine goD ?_
    refine bldA pl24 zero24 ?_
    refine goD ?_
    exact ⟨[.agg [.int 1, str ByteArray.empty, .base (.slice none 0 0)]], by kernel_rfl, Pub.agg' (show PubL _ 0 [_, _, _] [_, _, _] from ⟨.pu (.base _), .pu (.base _), .nilS, trivial⟩)⟩
  · subst h1
    rw [show drvX c (.mk 4 s l) = chX 5 (drvC c l) by rw [hR, if_pos rfl]]
    have hch := choose_ok 5 (drvC c l) (fun x hx => wf_ok x (drvC_wf hlw x hx)) (by omega)
    have hdn := drvC_len c l
    have hdr : ∀ k (h : k < l.length), drvC c (l.drop k) = catX (drvX c l[k] :: l.drop (k + 1)) :: (@ite (List Rx) l[k].nul (Classical.propDecidable _) (drvC c (l.drop (k + 1))) []) := fun k h => by
      rw [List.drop_eq_getElem_cons h, drvC]
    obtain ⟨D, hD⟩ : ∃ D, D = drvC c l := ⟨_, rfl⟩
    rw [← hD] at hch hdn ⊢
    refine goD ?_
    refine iff_ ?_
    refine goD ?_
    refine ift_ ?_
    refine gnD ?_
    refine keA [1, 2, 4, 5, 25, 26, 27] ?_
    refine AWp.weaken (Wk.nil (E2 := [(1, chr c), (2, .ptr 0 1 0 0), (4, .ptr 1 1 0 0), (5, .own 2 0 0 0), (25, .lst (l.map encX)), (26, .int l.length), (27, .int 0)]) 24 3 (by simp [lk, Le.refl])) ?_
    refine AWp.joinH [(5, .own 2 D.length 0 D.length), (27, .bad)] [⟨24, 3, [.agg [.int 4, str s, .lst (l.map encX)]]⟩, ⟨24, 3, [.agg [.int 0, str ByteArray.empty, .base (.slice none 0 0)]]⟩, xbl D] ?_ ?_
    · refine goD ?_
      refine AWp.loopH (J := fun y : Nat × List Rx => y.1 ≤ l.length ∧ y.2.length ≤ y.1 ∧ D = y.2 ++ drvC c (l.drop y.1)) (fun y => [(5, .own 2 y.2.length 0 y.2.length), (27, .int y.1)]) (fun y => [⟨24, 3, [.agg [.int 4, str s, .lst (l.map encX)]]⟩, ⟨24, 3, [.agg [.int 0, str ByteArray.empty, .base (.slice none 0 0)]]⟩, xbl y.2]) (fun y => l.length - y.1) (0, []) ⟨Nat.zero_le _, Nat.le_refl _, by simpa using hD⟩ .wk ?_
      rintro ⟨k, A⟩ ⟨hk, hAl, hDA⟩
      simp only at hk hAl hDA ⊢
      refine goD ?_
      refine ifA (fun hd => ?_) (fun hd => ?_)
      · have hd := of_decide_eq_true hd
        have hk2 : k < l.length := by omega
        have i1 := ih _ (List.getElem_mem hk2)
        have i2 := nullable_ok _ (wf_ok _ (hlw _ (List.getElem_mem hk2))) (hlw _ (List.getElem_mem hk2))
        have hdr := hdr k hk2
        have hcb : cnts (drvX c l[k] :: l.drop (k + 1)) ≤ 1000000000000 := by
          have h1 := drv_big (c := c) (r := l[k]) (by have := dep_mem (List.getElem_mem hk2); omega) (by have := cnts_mem (List.getElem_mem hk2); omega)
          have h2 := cnts_app (l.take (k + 1)) (l.drop (k + 1))
          rw [List.take_append_drop] at h2
          rw [cnts]; omega
        have i3 := cat_ok (drvX c l[k] :: l.drop (k + 1)) hcb
        have hlc := lenL_cnts (drvX c l[k] :: l.drop (k + 1))
        rcases hx : l[k] with ⟨o1, s1, l1⟩
        rw [hx] at i1 hdr i2 i3 hlc
        rcases hy : drvX c (.mk o1 s1 l1) with ⟨o2, s2, l2⟩
        rw [hy, encX_mk, encX_mk] at i1
        rw [encX_mk] at i2
        rw [hy] at hdr i3 hlc
        refine goC ?_
        refine ARun.q1 rfl rfl (ql_indexAddr_lst rfl rfl Try.underlying22 (by omega) (e := .agg [.int o1, str s1, .lst (l1.map encX)]) (by simp [hk2, hx, encX_mk]) (by kernel_rfl)) ?_
        refine goC ?_
        refine keA [1, 2, 4, 5, 6, 7, 25, 26, 27] ?_
        with_reducible apply AWp.drawK (k := 10) [none, none, none, some 0, none, none, none, none, none, some 1] (fun i => match i with
          | 0 => [⟨24, 3, [.agg [.int 4, str s, .lst (l.map encX)]]⟩, ⟨24, 3, [.agg [.int 0, str ByteArray.empty, .base (.slice none 0 0)]]⟩, xbl A, ⟨24, 3, [.agg [.int o1, str s1, .lst (l1.map encX)]]⟩]
          | 1 => [⟨24, 3, [.agg [.int 4, str s, .lst (l.map encX)]]⟩, ⟨24, 3, [.agg [.int 0, str ByteArray.empty, .base (.slice none 0 0)]]⟩, xbl A, ⟨24, 3, [.agg [.int o1, str s1, .lst (l1.map encX)]]⟩, xbl [.mk o2 s2 l2]]
          | _ => [⟨24, 3, [.agg [.int 4, str s, .lst (l.map encX)]]⟩, ⟨24, 3, [.agg [.int 0, str ByteArray.empty, .base (.slice none 0 0)]]⟩, xbl A, ⟨24, 3, [.agg [.int o1, str s1, .lst (l1.map encX)]]⟩, xbl (.mk o2 s2 l2 :: l.drop (k + 1))]) 2 follows
        · refine ⟨rfl, rfl, by kernel_rfl, by decide, ?_, ?_⟩
          · simp +decide only [go_sem, List.map, List.take]; rfl
          · simp +decide only [go_sem, List.map, List.drop]; rfl
        · kernel_rfl
        · rfl
        refine GRun.qf2 (v := .agg [.int o1, str s1, .lst (l1.map encX)]) rfl rfl (by simp +decide only [go_sem] <;> rfl) (by simp +decide only [go_sem] <;> rfl) (by simp +decide only [go_sem] <;> rfl) ?_
        refine GRun.qf2 rfl rfl (by simp +decide only [go_sem] <;> rfl) (by simp +decide only [go_sem] <;> rfl) (by simp +decide only [go_sem] <;> rfl) ?_
        refine GRun.q1 rfl rfl (fun c hc => ql_callC i1 rfl (by simp +decide only [go_sem] <;> rfl) (by simp +decide only [go_sem, List.map]) (by simp)) ?_
        refine GRun.p1 (v := .own 4 1 0 1) rfl rfl (fun ρ' h => pl_buildSlice (ρ := ρ') (es := [encX (.mk o2 s2 l2)]) (by decide) Try.underlying22 sz24 (by kernel_rfl) (by decide) (by rw [show (Array.toList #[(0, Operand.tmp 34)]) = [(0, Operand.tmp 34)] from rfl]; simp only [List.map]; rw [h (.tmp 34) (by simp [Op.operands])]; simp +decide only [go_sem]; rfl) (by rw [show (Array.toList #[(0, Operand.tmp 34)]) = [(0, Operand.tmp 34)] from rfl]; simp only [List.map]; rw [h (.tmp 34) (by simp [Op.operands]), encX_mk]; simp +decide only [go_sem]) rfl) ?_
        refine GRun.qf2 (v := .ptr 0 1 0 2) rfl rfl (by simp +decide only [go_sem] <;> rfl) (by simp +decide only [go_sem] <;> rfl) (by simp +decide only [go_sem] <;> rfl) ?_
        refine GRun.qf2 (v := .lst (l.map encX)) rfl rfl (by simp +decide only [go_sem] <;> rfl) (by simp +decide only [go_sem] <;> rfl) (by simp +decide only [go_sem] <;> rfl) ?_
        refine GRun.qf2 (v := .int k) rfl rfl (by simp +decide only [go_sem] <;> rfl) (by simp +decide only [go_sem] <;> rfl) (by simp +decide only [go_sem] <;> rfl) ?_
        refine GRun.qf2 (v := .int (IntKind.i64.wrap ((k : Int) + 1))) rfl rfl (by simp +decide only [go_sem] <;> rfl) (by simp +decide only [go_sem] <;> rfl) (by simp +decide only [go_sem] <;> rfl) ?_
        rw [wrap_succ (by omega)]
        refine GRun.q1 (v := .lst ((l.drop (k + 1)).map encX)) rfl rfl (fun c hc => ql_slice_suf (k := .i64) (n := ((k + 1 : Nat) : Int)) (l := l) (f := encX) (by simp +decide only [go_sem] <;> rfl) (by simp +decide only [go_sem] <;> rfl) Try.underlying22 (by omega) (by omega) sz24 (fun e => (okX e).1)) ?_
        refine GRun.p1 (v := .own 4 (.mk o2 s2 l2 :: l.drop (k + 1)).length 0 (.mk o2 s2 l2 :: l.drop (k + 1)).length) rfl rfl (fun ρ' h => pl_appX (ρ := ρ') (b := 4) (A := [.mk o2 s2 l2]) (B := l.drop (k + 1)) (h (.tmp 35) (by simp [Op.operands, Call.operands])) (h (.tmp 40) (by simp [Op.operands, Call.operands])) rfl (by simp; omega)) ?_
        refine GRun.nil ?_
        refine ARun.q1 rfl rfl (ql_fun (v := .own 4 (.mk o2 s2 l2 :: l.drop (k + 1)).length 0 (.mk o2 s2 l2 :: l.drop (k + 1)).length) (by simp +decide only [go_sem] <;> rfl)) ?_
        refine ARun.nil ?_
        refine thenQ_n ?_
        refine AWp.weaken (Wk.trim' (E2 := [(1, chr c), (2, .ptr 0 1 0 0), (4, .ptr 1 1 0 0), (5, .own 2 A.length 0 A.length), (7, .ptr 3 1 0 0), (8, .lst ((.mk o2 s2 l2 :: l.drop (k + 1)).map encX)), (25, .lst (l.map encX)), (26, .int l.length), (27, .int k)]) 4 rfl (by simp +decide only [go_sem, WkP]; exact ⟨.pu (.base _), .ptr (by decide), .ptr (by decide), .own (by decide), .ptr (by decide), Pub.ownM (f := encX) (l := .mk o2 s2 l2 :: l.drop (k + 1)) (Nat.le_refl _) rfl rfl (fun x _ c hc => Pu_Xc x c hc), .pu (Pu_mapX _), .pu (.base _), .pu (.base _)⟩) (pubB (PuBl.cons (PuB_one _ s l) (PuBl.cons (PuB_zX 0 _) (PuBl.cons (PuB_x A) (PuBl.cons (PuB_one _ s1 l1) .nil)))))) ?_
        generalize (Rx.mk o2 s2 l2 :: l.drop (k + 1)) = L at *
        rcases hz : catX L with ⟨o3, s3, l3⟩
        rw [hz] at hdr i3
        rw [encX_mk] at i3
        refine goC ?_
        refine callA (i3) ?_
        refine bslA Try.underlying22 sz24 ?_
        refine ARun.p1 rfl rfl (pl_appX (b := 2) (A := A) (B := [.mk o3 s3 l3]) (by simp +decide only [go_sem] <;> rfl) (by simp +decide only [go_sem, List.map, encX_mk] <;> rfl) rfl (by simp; omega)) ?_
        refine goC ?_
        refine callA (i2) ?_
        refine goD ?_
        refine ifA (fun hn => ?_) (fun hn => ?_)
        · have hn : ¬ (Rx.mk o1 s1 l1).nul := by simpa using hn
          have hDf : D = A ++ [.mk o3 s3 l3] := by rw [hDA, hdr]; simp [hn]
          have hDl : D.length = A.length + 1 := by rw [hDf]; simp
          refine goD ?_
          rw [hDf]
          exact (Wk.trim' 3 rfl (by simp +decide only [go_sem, WkP]; (repeat' apply And.intro); all_goals first | trivial | exact .pu (.base _) | exact .ptr (by decide) | exact .own (by decide) | exact .pu (by simp) | exact .bad _)) (pubB (PuBl.cons (PuB_one _ s l) (PuBl.cons (PuB_zX 0 _) (PuBl.cons (PuB_x (A ++ [.mk o3 s3 l3])) .nil))))
        · have hn : (Rx.mk o1 s1 l1).nul := by simpa using hn
          have hDf : D = (A ++ [.mk o3 s3 l3]) ++ drvC c (l.drop (k + 1)) := by rw [hDA, hdr]; simp [hn]
          refine goD ?_
          rw [wrap_succ (by omega)]
          refine ⟨(k + 1, A ++ [.mk o3 s3 l3]), ⟨by simp only; omega, by simp; omega, hDf⟩, by simp only; omega, ?_⟩
          exact (Wk.trim' 3 rfl (by simp +decide only [go_sem, WkP]; (repeat' apply And.intro); all_goals first | trivial | exact .pu (.base _) | exact .ptr (by decide) | exact .own (by decide) | exact .pu (by simp) | exact .bad _)) (pubB (PuBl.cons (PuB_one _ s l) (PuBl.cons (PuB_zX 0 _) (PuBl.cons (PuB_x (A ++ [.mk o3 s3 l3])) .nil))))
      have hd := of_decide_eq_false hd
      obtain rfl : k = l.length := by omega
      rw [List.drop_length, drvC, List.append_nil] at hDA
      subst hDA
      refine goD ?_
      exact .wk
    · refine AWp.weaken (Wk.trim' (E2 := [(2, .ptr 0 1 0 0), (4, .ptr 1 1 0 0), (5, .lst (D.map encX))]) 2 rfl (by simp +decide only [go_sem, WkP]; exact ⟨.ptr (by decide), .ptr (by decide), Pub.ownM (f := encX) (l := D) (Nat.le_refl _) rfl rfl (fun x _ c hc => Pu_Xc x c hc)⟩) (pubB (PuBl.cons (PuB_one _ s l) (PuBl.cons (PuB_zX 0 _) .nil)))) ?_
      rcases hg : chX 5 D with ⟨o2, s2, l2⟩
      rw [hg, encX_mk] at hch
      rw [encX_mk]
      refine goD ?_
      refine callA (hch) ?_
      refine goD ?_
      exact ⟨[.agg [.int o2, str s2, .lst (l2.map encX)]], by kernel_rfl, .pu (Pu_aggX o2 s2 l2)⟩
  · subst h1
    rw [show drvX c (.mk 5 s l) = chX 5 (drvs c l) by rw [hR, if_neg (by omega), if_pos (by omega)]]
    have hdl := fun k (h : k < l.length) => drvs_take (c := c) h
    have hch := choose_ok 5 (drvs c l) (fun x hx => wf_ok x (drvs_wf hlw x hx)) (by omega)
    have hdn : (drvs c l).length = l.length := by rw [drvs_map, List.length_map]
    have hd0 : (drvs c l).take l.length = drvs c l := List.take_of_length_le (by omega)
    generalize drvs c l = D at *
    refine goD ?_
    refine iff_ ?_
    refine goD ?_
    refine iff_ ?_
    refine goD ?_
    refine ift_ ?_
    refine goD ?_
    refine ift_ ?_
    refine goD ?_
    refine keA [1, 2, 4, 5, 57, 58, 59] ?_
    refine AWp.weaken (Wk.nil (E2 := [(1, chr c), (2, .ptr 0 1 0 0), (4, .ptr 1 1 0 0), (5, .own 2 0 0 0), (57, .lst (l.map encX)), (58, .int l.length), (59, .int 0)]) 24 3 (by simp [lk, Le.refl])) ?_
    refine AWp.loopH (J := fun k : Nat => k ≤ l.length) (fun k => [(5, .own 2 k 0 k), (59, .int k)]) (fun k => [⟨24, 3, [.agg [.int 5, str s, .lst (l.map encX)]]⟩, ⟨24, 3, [.agg [.int 0, str ByteArray.empty, .base (.slice none 0 0)]]⟩, xbl (D.take k)]) (fun k => l.length - k) 0 (Nat.zero_le _) .wk ?_
    intro k hk
    refine goD ?_
    refine ifA (fun hd => ?_) (fun hd => ?_)
    · have hd := of_decide_eq_true hd
      have hk2 : k < l.length := by omega
      have i1 := ih _ (List.getElem_mem hk2)
      have hdl := hdl k hk2
      rcases hx : l[k] with ⟨o1, s1, l1⟩
      rw [hx] at i1 hdl
      rcases hy : drvX c (.mk o1 s1 l1) with ⟨o2, s2, l2⟩
      rw [hy, encX_mk, encX_mk] at i1
      rw [hy] at hdl
      refine goC ?_
      refine ARun.q1 rfl rfl (ql_indexAddr_lst rfl rfl Try.underlying22 (by omega) (e := .agg [.int o1, str s1, .lst (l1.map encX)]) (by simp [hk2, hx, encX_mk]) (by kernel_rfl)) ?_
      refine goC ?_
      refine callA (i1) ?_
      refine bslA Try.underlying22 sz24 ?_
      have hkl : (D.take k).length = k := by simp; omega
      refine ARun.p1 rfl rfl (pl_appX (b := 2) (A := D.take k) (B := [.mk o2 s2 l2]) (by rw [hkl]; simp +decide only [go_sem] <;> rfl) (by simp +decide only [go_sem, List.map, encX_mk] <;> rfl) rfl (by simp; omega)) ?_
      rw [← hdl, show (D.take (k + 1)).length = k + 1 by simp; omega]
      refine goC ?_
      rw [wrap_succ (by omega)]
      exact ⟨k + 1, by omega, by omega, (Wk.trim' 3 rfl (by simp +decide only [go_sem, WkP]; (repeat' apply And.intro); all_goals first | trivial | exact .pu (.base _) | exact .ptr (by decide) | exact .own (by decide) | exact .pu (by simp) | exact .bad _)) (pubB (PuBl.cons (PuB_one _ s l) (PuBl.cons (PuB_zX 0 _) (PuBl.cons (PuB_x (D.take (k + 1))) .nil))))⟩
    have hd := of_decide_eq_false hd
    obtain rfl : k = l.length := by omega
    rw [hd0]
    refine AWp.weaken (Wk.trim' (E2 := [(2, .ptr 0 1 0 0), (4, .ptr 1 1 0 0), (5, .lst (D.map encX))]) 2 rfl (by simp +decide only [go_sem, WkP]; exact ⟨.ptr (by decide), .ptr (by decide), Pub.ownM (f := encX) (l := D) (Nat.le_refl _) rfl hdn (fun x _ c hc => Pu_Xc x c hc)⟩) (pubB (PuBl.cons (PuB_one _ s l) (PuBl.cons (PuB_zX 0 _) .nil)))) ?_
    rcases hg : chX 5 D with ⟨o2, s2, l2⟩
    rw [hg, encX_mk] at hch
    rw [encX_mk]
    refine goD ?_
    refine callA (hch) ?_
    refine goD ?_
    exact ⟨[.agg [.int o2, str s2, .lst (l2.map encX)]], by kernel_rfl, .pu (Pu_aggX o2 s2 l2)⟩
  · subst h1
    rw [show drvX c (.mk 7 s l) = chX 7 (drvs c l) by rw [hR, if_neg (by omega), if_pos (by omega)]]
    have hdl := fun k (h : k < l.length) => drvs_take (c := c) h
    have hch := choose_ok 7 (drvs c l) (fun x hx => wf_ok x (drvs_wf hlw x hx)) (by omega)
    have hdn : (drvs c l).length = l.length := by rw [drvs_map, List.length_map]
    have hd0 : (drvs c l).take l.length = drvs c l := List.take_of_length_le (by omega)
    generalize drvs c l = D at *
    refine goD ?_
    refine iff_ ?_
    refine goD ?_
    refine iff_ ?_
    refine goD ?_
    refine iff_ ?_
    refine goD ?_
    refine ift_ ?_
    refine goD ?_
    refine keA [1, 2, 4, 5, 57, 58, 59] ?_
    refine AWp.weaken (Wk.nil (E2 := [(1, chr c), (2, .ptr 0 1 0 0), (4, .ptr 1 1 0 0), (5, .own 2 0 0 0), (57, .lst (l.map encX)), (58, .int l.length), (59, .int 0)]) 24 3 (by simp [lk, Le.refl])) ?_
    refine AWp.loopH (J := fun k : Nat => k ≤ l.length) (fun k => [(5, .own 2 k 0 k), (59, .int k)]) (fun k => [⟨24, 3, [.agg [.int 7, str s, .lst (l.map encX)]]⟩, ⟨24, 3, [.agg [.int 0, str ByteArray.empty, .base (.slice none 0 0)]]⟩, xbl (D.take k)]) (fun k => l.length - k) 0 (Nat.zero_le _) .wk ?_
    intro k hk
    refine goD ?_
    refine ifA (fun hd => ?_) (fun hd => ?_)
    · have hd := of_decide_eq_true hd
      have hk2 : k < l.length := by omega
      have i1 := ih _ (List.getElem_mem hk2)
      have hdl := hdl k hk2
      rcases hx : l[k] with ⟨o1, s1, l1⟩
      rw [hx] at i1 hdl
      rcases hy : drvX c (.mk o1 s1 l1) with ⟨o2, s2, l2⟩
      rw [hy, encX_mk, encX_mk] at i1
      rw [hy] at hdl
      refine goC ?_
      refine ARun.q1 rfl rfl (ql_indexAddr_lst rfl rfl Try.underlying22 (by omega) (e := .agg [.int o1, str s1, .lst (l1.map encX)]) (by simp [hk2, hx, encX_mk]) (by kernel_rfl)) ?_
      refine goC ?_
      refine callA (i1) ?_
      refine bslA Try.underlying22 sz24 ?_
      have hkl : (D.take k).length = k := by simp; omega
      refine ARun.p1 rfl rfl (pl_appX (b := 2) (A := D.take k) (B := [.mk o2 s2 l2]) (by rw [hkl]; simp +decide only [go_sem] <;> rfl) (by simp +decide only [go_sem, List.map, encX_mk] <;> rfl) rfl (by simp; omega)) ?_
      rw [← hdl, show (D.take (k + 1)).length = k + 1 by simp; omega]
      refine goC ?_
      rw [wrap_succ (by omega)]
      exact ⟨k + 1, by omega, by omega, (Wk.trim' 3 rfl (by simp +decide only [go_sem, WkP]; (repeat' apply And.intro); all_goals first | trivial | exact .pu (.base _) | exact .ptr (by decide) | exact .own (by decide) | exact .pu (by simp) | exact .bad _)) (pubB (PuBl.cons (PuB_one _ s l) (PuBl.cons (PuB_zX 0 _) (PuBl.cons (PuB_x (D.take (k + 1))) .nil))))⟩
    have hd := of_decide_eq_false hd
    obtain rfl : k = l.length := by omega
    rw [hd0]
    refine AWp.weaken (Wk.trim' (E2 := [(2, .ptr 0 1 0 0), (4, .ptr 1 1 0 0), (5, .lst (D.map encX))]) 2 rfl (by simp +decide only [go_sem, WkP]; exact ⟨.ptr (by decide), .ptr (by decide), Pub.ownM (f := encX) (l := D) (Nat.le_refl _) rfl hdn (fun x _ c hc => Pu_Xc x c hc)⟩) (pubB (PuBl.cons (PuB_one _ s l) (PuBl.cons (PuB_zX 0 _) .nil)))) ?_
    rcases hg : chX 7 D with ⟨o2, s2, l2⟩
    rw [hg, encX_mk] at hch
    rw [encX_mk]
    refine goD ?_
    refine callA (hch) ?_
    refine goD ?_
    exact ⟨[.agg [.int o2, str s2, .lst (l2.map encX)]], by kernel_rfl, .pu (Pu_aggX o2 s2 l2)⟩
  · subst h1
    obtain ⟨x, rfl⟩ := wf1 (wf_sub.1 hw).1 (.inl rfl)
    rw [show drvX c (.mk 6 s [x]) = catX [drvX c x, .mk 6 s [x]] by rw [hR, if_neg (by omega), if_neg (by omega), if_pos rfl]; simp [drvs]]
    have i1 := ih x (by simp)
    have hcb : cnts [drvX c x, .mk 6 s [x]] ≤ 1000000000000 := by
      have h1 := drv_big (c := c) (r := x) (by have := dep_mem (l := [x]) (x := x) (by simp); omega) (by have := cnts_mem (l := [x]) (x := x) (by simp); omega)
      simp only [cnts]; omega
    have i3 := cat_ok [drvX c x, .mk 6 s [x]] hcb
    rcases hx : x with ⟨o1, s1, l1⟩
    rw [hx] at i1 i3
    rcases hy : drvX c (.mk o1 s1 l1) with ⟨o2, s2, l2⟩
    rw [hy, encX_mk, encX_mk] at i1
    rw [hy] at i3
    simp only [List.map_cons, List.map_nil, encX_mk] at i3 ⊢
    rcases hz : catX [.mk o2 s2 l2, .mk 6 s [.mk o1 s1 l1]] with ⟨o3, s3, l3⟩
    rw [hz, encX_mk] at i3
    refine goD ?_
    refine iff_ ?_
    refine goD ?_
    refine iff_ ?_
    refine goD ?_
    refine iff_ ?_
    refine goD ?_
    refine iff_ ?_
    refine goD ?_
    refine ift_ ?_
    have hP := Pu_mapX [.mk o2 s2 l2, .mk 6 s [.mk o1 s1 l1]]
    simp only [List.map_cons, List.map_nil, encX_mk] at hP
    refine AWp.seq ?_
    refine drA (k := 9) follows (hr := ?_)
    refine goC ?_
    refine ARun.q1 rfl rfl (ql_indexAddr_lst rfl rfl Try.underlying22 (by omega) (e := .agg [.int o1, str s1, .lst (l1.map encX)]) (by rfl) (by kernel_rfl)) ?_
    refine goC ?_
    refine callA (i1) ?_
    refine goC ?_
    refine bslA Try.underlying22 sz24 ?_
    refine callA i3 ?_ (hp := by intro a ha; rw [List.mem_singleton] at ha; subst ha; exact hP)
    refine goD ?_
    rw [encX_mk]
    exact ⟨[.agg [.int o3, str s3, .lst (l3.map encX)]], by kernel_rfl, .pu (Pu_aggX o3 s3 l3)⟩
  · subst h1
    obtain ⟨x, rfl⟩ := wf1 (wf_sub.1 hw).1 (.inr rfl)
    rw [show drvX c (.mk 8 s [x]) = notX (drvX c x) by rw [hR, if_neg (by omega), if_neg (by omega), if_neg (by omega), if_pos rfl]; simp [drvs]]
    have i1 := ih x (by simp)
    have hyw := drv_wf c x (hlw x (by simp))
    rcases hx : x with ⟨o1, s1, l1⟩
    rw [hx] at i1 hyw
    rcases hy : drvX c (.mk o1 s1 l1) with ⟨o2, s2, l2⟩
    rw [hy, encX_mk, encX_mk] at i1
    rw [hy] at hyw
    simp only [List.map_cons, List.map_nil, encX_mk]
    refine goD ?_
    refine iff_ ?_
    refine goD ?_
    refine iff_ ?_
    refine goD ?_
    refine iff_ ?_
    refine goD ?_
    refine iff_ ?_
    refine goD ?_
    refine iff_ ?_
    refine goD ?_
    refine ift_ ?_
    refine goC ?_
    refine ARun.q1 rfl rfl (ql_indexAddr_lst rfl rfl Try.underlying22 (by omega) (e := .agg [.int o1, str s1, .lst (l1.map encX)]) (by rfl) (by kernel_rfl)) ?_
    refine goC ?_
    refine callA (i1) ?_
    refine goC ?_
    refine ifA (fun h => ?_) (fun h => ?_)
    · have h : o2 = 8 := by simpa using h
      subst h
      obtain ⟨y, rfl⟩ := wf1 (wf_sub.1 hyw).1 (.inr rfl)
      rw [show notX (.mk 8 s2 [y]) = y by simp [notX, Rx.op, Rx.subs]]
      rcases y with ⟨o3, s3, l3⟩
      simp only [List.map_cons, List.map_nil, encX_mk]
      refine goC ?_
      refine ARun.q1 rfl rfl (ql_indexAddr_lst rfl rfl Try.underlying22 (by omega) (e := .agg [.int o3, str s3, .lst (l3.map encX)]) (by rfl) (by kernel_rfl)) ?_
      refine goC ?_
      exact ⟨[.agg [.int o3, str s3, .lst (l3.map encX)]], by kernel_rfl, .pu (Pu_aggX o3 s3 l3)⟩
    · have h : o2 ≠ 8 := by simpa using h
      rw [show notX (.mk o2 s2 l2) = .mk 8 ByteArray.empty [.mk o2 s2 l2] by simp [notX, Rx.op, h]]
      have hP := Pu_enc (.mk 8 ByteArray.empty [.mk o2 s2 l2])
      simp only [encX_mk, List.map_cons, List.map_nil] at hP ⊢
      refine goC ?_
      refine bslA Try.underlying22 sz24 ?_
      refine bldA pl24 zero24 ?_
      refine goC ?_
      exact ⟨[.agg [.int 8, str ByteArray.empty, .lst [.agg [.int o2, str s2, .lst (l2.map encX)]]]], by kernel_rfl, .pu hP⟩
end Go.Ab
set_option maxHeartbeats 4000000
namespace Go.Ab
open Go Go.Ab Go.Proofs Go.Ab.Ty

/-! ### Derive and its law -/
theorem sizeB_ok (r : Rx) (hok : r.ok) (hc : r.cnt ≤ 4000000000000) : Fn Try.prog 77 [encX r] (encSz (r.cnt, r.dep)) := by
  induction r using Rx.ind with
  | h o s l ih =>
  obtain ⟨hs, hn, hl⟩ := ok_sub hok
  unfold maxLen at hs hn
  rw [encX_mk]
  refine Fn.intro' [(0, .agg [.int o, str s, .lst (l.map encX)])] 1 30 Try.func77 (by kernel_rfl) rfl rfl rfl rfl rfl ?_
  refine goB ?_
  have hcl : 1 + cnts l ≤ 4000000000000 := by rw [Rx.cnt] at hc; exact hc
  refine AWp.loopP (J := fun k : Nat => k ≤ l.length) (fun k => [(11, .int k), (2, .int (1 + cnts (l.take k) : Nat)), (3, .int (deps (l.take k))), (5, .bad), (6, .bad), (7, .bad), (13, .bad), (14, .bad)]) (fun k => l.length - k) 0 (Nat.zero_le _) (.env' (by simp +decide only [go_sem] <;> simp [Le.refl, Le_bad, cnts, deps])) ?_
  rintro k hk
  refine goB ?_
  refine ifA (fun hd => ?_) (fun hd => ?_)
  · simp at hd
    refine goB ?_
    have hm : l[k] ∈ l := List.getElem_mem _
    have h1 := cnts_take hd
    have h2 := deps_take hd
    have h3 := cnts_take_le l (k + 1)
    have h4 := cnts_take_le l k
    have h5 := deps_take_le l k
    have h6 := dep_le_cnt l[k]
    rcases hx : l[k] with ⟨o1, s1, l1⟩
    have ih1 := ih _ hm (hl _ hm) (by omega)
    rw [hx, encX_mk] at ih1
    rw [hx] at h1 h2 h6
    refine ARun.q1 rfl rfl (ql_indexAddr_lst rfl rfl Try.underlying22 (by omega) (e := .agg [.int o1, str s1, .lst (l1.map encX)]) (by simp [hd, hx, encX_mk]) (by kernel_rfl)) ?_
    refine goB ?_
    refine callA (ih1) ?_
    simp only [encSz]
    refine goB ?_
    (repeat rw [wrap_id (by omega) (by omega)])
    refine ⟨k + 1, by omega, by omega, ?_⟩
    rw [h1, h2]
    have e1 : ((1 + cnts (l.take k) : Nat) : Int) + ((Rx.mk o1 s1 l1).cnt : Int) = ((1 + (cnts (l.take k) + (Rx.mk o1 s1 l1).cnt) : Nat) : Int) := by omega
    have e2 : max (deps (l.take k) : Int) ((Rx.mk o1 s1 l1).dep : Int) = ((max (deps (l.take k)) (Rx.mk o1 s1 l1).dep : Nat) : Int) := by omega
    rw [e1, e2]
    exact (Wk.trim' 1 rfl (by simp +decide only [go_sem, WkP]; (repeat' apply And.intro); all_goals first | trivial | exact .pu (.base _) | exact .ptr (by decide) | exact .own (by decide) | exact .pu (by simp) | exact .bad _)) (pubB (PuBlX o s l))
  simp at hd
  refine goB ?_
  obtain rfl : k = l.length := by omega
  have h5 := deps_take_le l l.length
  rw [List.take_length] at h5 ⊢
  rw [wrap_succ (by omega)]
  exact Ret.data rfl (by simp [packA, lk, encSz, Rx.cnt, Rx.dep]) (.tup fun c hc => by
    simp only [List.mem_cons, List.not_mem_nil, or_false] at hc
    rcases hc with rfl | rfl <;> exact .base _)
open Classical in
theorem validB_ok (r : Rx) (hok : r.ok) (hc : r.cnt ≤ 4000000000000) : Fn Try.prog 40 [encX r] (.bool (decide r.valid)) := by
  have i1 := sizeB_ok r hok hc
  have i2 := shaped_ok r hok
  have hdef : r.valid ↔ (r.cnt ≤ 60 ∧ r.dep ≤ 12) ∧ r.wf := Iff.rfl
  generalize r.cnt = n at i1 hdef
  generalize r.dep = d at i1 hdef
  obtain ⟨o, s, l⟩ := r
  rw [encX_mk] at i1 i2 ⊢
  refine Fn.intro' [(0, .agg [.int o, str s, .lst (l.map encX)])] 1 20 Try.func40 (by kernel_rfl) rfl rfl rfl rfl rfl ?_
  refine goB ?_
  refine callA (i1) ?_
  simp only [encSz]
  refine goB ?_
  refine gcallA (i := fun hg => i2) (hr := ?_)
  refine goB ?_
  exact Ret.bool rfl (by
    rw [decide_eq_true_iff, hdef]
    simp
    intro _; omega)
theorem nodes8_ok (r : Rx) (hok : r.ok) : Fn Try.prog 36 [encX r, .int 8] (.int (min r.cnt 9 : Nat)) := by
  induction r using Rx.ind with
  | h o s l ih =>
  obtain ⟨hs, hn, hl⟩ := ok_sub hok
  unfold maxLen at hs hn
  rw [encX_mk]
  refine Fn.intro' [(0, .agg [.int o, str s, .lst (l.map encX)]), (1, .int 8)] 2 32 Try.func36 (by kernel_rfl) rfl rfl rfl rfl rfl ?_
  refine goB ?_
  refine AWp.loopP (J := fun k : Nat => k ≤ l.length ∧ 1 + cutN 9 l k ≤ 17) (fun k => [(6, .int k), (5, .int (1 + cutN 9 l k : Nat))]) (fun k => l.length - k) 0 ⟨Nat.zero_le _, by simp [cutN_zero]⟩ (.env' (by simp +decide only [go_sem] <;> simp [Le.refl, cutN_zero])) ?_
  rintro k ⟨hk, he⟩
  refine goB ?_
  refine ifA (fun hd => ?_) (fun hd => ?_)
  · simp at hd
    refine goB ?_
    have hm : l[k]'hd.1 ∈ l := List.getElem_mem _
    rcases hx : l[k]'hd.1 with ⟨o1, s1, l1⟩
    have ih1 := ih _ hm (hl _ hm)
    rw [hx, encX_mk] at ih1
    refine ARun.q1 rfl rfl (ql_indexAddr_lst rfl rfl Try.underlying22 (by omega) (e := .agg [.int o1, str s1, .lst (l1.map encX)]) (by simp [hd.1, hx, encX_mk]) (by kernel_rfl)) ?_
    refine goB ?_
    refine callA (ih1) ?_
    refine goB ?_
    have hc := cutN_succ (m := 9) hd.1
    rw [hx] at hc
    rw [wrap_succ (by omega), wrap_id (by omega) (by omega)]
    have e2 : ((1 + cutN 9 l k : Nat) : Int) + ((min (Rx.mk o1 s1 l1).cnt 9 : Nat) : Int) = ((1 + cutN 9 l (k + 1) : Nat) : Int) := by omega
    rw [e2]
    exact ⟨k + 1, ⟨by omega, by omega⟩, by omega, .wk⟩
  simp at hd
  refine goB ?_
  have := cutN_le 9 l k
  have h2 := cutN_all (m := 9) (l := l)
  have hf : min ((1 + cutN 9 l k : Nat) : Int) (IntKind.i64.wrap (8 + 1)) = ((min (Rx.mk o s l).cnt 9 : Nat) : Int) := by
    rw [wrap_id (by omega) (by omega), Rx.cnt]
    by_cases hlt : k < l.length
    · have := hd hlt; omega
    · obtain rfl : k = l.length := by omega
      omega
  exact Ret.data rfl (by simp only [packA, lk, List.map, if_true]; first | rw [hf] | (simp [packA, lk, hf])) (.base _)
theorem copied_ok (r : Rx) (hok : r.ok) (hc : r.cnt ≤ 1000000000000) : Fn Try.prog 73 [encX r] (encX r) := by
  induction r using Rx.ind with
  | h o s l ih =>
  obtain ⟨hs, hn, hl⟩ := ok_sub hok
  have hcx := cnt_mk o s l
  have hlen := lenL_cnts l
  have ih := fun x hx => ih x hx (hl x hx) (by have := cnts_mem hx; omega)
  rw [encX_mk]
  refine Fn.intro' [(0, .agg [.int o, str s, .lst (l.map encX)])] 1 27 Try.func73 (by kernel_rfl) rfl rfl rfl rfl rfl ?_
  refine goB ?_
  refine keA [1, 2, 3, 8, 9, 10] ?_
  refine AWp.weaken (Wk.nil (E2 := [(1, .ptr 0 1 0 0), (2, .ptr 1 1 0 0), (3, .own 2 0 0 0), (8, .lst (l.map encX)), (9, .int l.length), (10, .int 0)]) 24 3 (by simp [lk, Le.refl])) ?_
  refine AWp.loopH (J := fun k : Nat => k ≤ l.length) (fun k => [(3, .own 2 k 0 k), (10, .int k)]) (fun k => [⟨24, 3, [.agg [.int o, str s, .lst (l.map encX)]]⟩, ⟨24, 3, [.agg [.int 0, str ByteArray.empty, .base (.slice none 0 0)]]⟩, xbl (l.take k)]) (fun k => l.length - k) 0 (Nat.zero_le _) .wk ?_
  intro k hk
  refine goB ?_
  refine ifA (fun hd => ?_) (fun hd => ?_)
  · have hd := of_decide_eq_true hd
    have hk2 : k < l.length := by omega
    have i1 := ih _ (List.getElem_mem hk2)
    have hdl := List.take_succ_eq_append_getElem hk2
    rcases hx : l[k] with ⟨o1, s1, l1⟩
    rw [hx] at i1 hdl
    rw [encX_mk] at i1
    refine goA ?_
    refine ARun.q1 rfl rfl (ql_indexAddr_lst rfl rfl Try.underlying22 (by omega) (e := .agg [.int o1, str s1, .lst (l1.map encX)]) (by simp [hk2, hx, encX_mk]) (by kernel_rfl)) ?_
    refine goA ?_
    refine callA (i1) ?_
    refine goA ?_
    refine bslA Try.underlying22 sz24 ?_
    have hkl : (l.take k).length = k := by simp; omega
    refine ARun.p1 rfl rfl (pl_appX (b := 2) (A := l.take k) (B := [.mk o1 s1 l1]) (by rw [hkl]; simp +decide only [go_sem] <;> rfl) (by simp +decide only [go_sem, List.map, encX_mk] <;> rfl) rfl (by simp; omega)) ?_
    rw [← hdl, show (l.take (k + 1)).length = k + 1 by simp; omega]
    refine goA ?_
    rw [wrap_succ (by omega)]
    exact ⟨k + 1, by omega, by omega, (Wk.trim' 3 rfl (by simp +decide only [go_sem, WkP]; (repeat' apply And.intro); all_goals first | trivial | exact .pu (.base _) | exact .ptr (by decide) | exact .own (by decide) | exact .pu (by simp) | exact .bad _)) (pubB (PuBl.cons (PuB_one _ s l) (PuBl.cons (PuB_zX 0 _) (PuBl.cons (PuB_x (l.take (k + 1))) .nil))))⟩
  have hd := of_decide_eq_false hd
  obtain rfl : k = l.length := by omega
  rw [List.take_length]
  refine goB ?_
  refine bldA pl24 zero24 ?_
  refine goB ?_
  exact ⟨[.agg [.int o, str s, .own 2 l.length 0 l.length]], by kernel_rfl, Pub.agg' (show PubL _ 0 [_, _, _] [_, _, _] from ⟨.pu (.base _), .pu (.base _), .ownM (f := encX) (l := l) (Nat.zero_le _) (by rfl) rfl (fun x _ c hc => Pu_Xc x c hc), trivial⟩)⟩
open Classical in
theorem loose_ok (r : Rx) (hok : r.ok) : Fn Try.prog 37 [encX r] (.bool (decide (¬ r.tight))) := by
  induction r using Rx.ind with
  | h o s l ih =>
  obtain ⟨hs, hn, hl⟩ := ok_sub hok
  unfold maxLen at hn
  rw [encX_mk]
  refine Fn.intro' [(0, .agg [.int o, str s, .lst (l.map encX)])] 1 25 Try.func37 (by kernel_rfl) rfl rfl rfl rfl rfl ?_
  refine goB ?_
  refine ifA (fun h1 => ?_) (fun h1 => ?_)
  · refine goB ?_
    refine Ret.tt rfl (fun h => ?_)
    have := tight_sub.1 h
    simp at h1
    omega
  simp at h1
  refine goB ?_
  refine AWp.loopP (J := fun k : Nat => k ≤ l.length ∧ ∀ x ∈ l.take k, x.tight) (fun k => [(3, .int k)]) (fun k => l.length - k) 0 ⟨Nat.zero_le _, by simp⟩ .wk ?_
  rintro k ⟨hk, he⟩
  refine goB ?_
  refine ifA (fun hd => ?_) (fun hd => ?_)
  · have hd := of_decide_eq_true hd
    have hk2 : k < l.length := by omega
    have i1 := ih _ (List.getElem_mem hk2) (hl _ (List.getElem_mem hk2))
    have hms := fun x => mem_take_s (x := x) hk2
    have hm := List.getElem_mem hk2
    rcases hx : l[k] with ⟨o1, s1, l1⟩
    rw [hx] at i1 hms hm
    rw [encX_mk] at i1
    refine goA ?_
    refine ARun.q1 rfl rfl (ql_indexAddr_lst rfl rfl Try.underlying22 (by omega) (e := .agg [.int o1, str s1, .lst (l1.map encX)]) (by simp [hk2, hx, encX_mk]) (by kernel_rfl)) ?_
    refine goA ?_
    refine callA (i1) ?_
    refine goB ?_
    refine ifA (fun h2 => ?_) (fun h2 => ?_)
    · have h2 := of_decide_eq_true h2
      refine goB ?_
      exact Ret.tt rfl (fun h => h2 ((tight_sub.1 h).2.2 _ hm))
    · have h2 : (Rx.mk o1 s1 l1).tight := by simpa using h2
      refine goB ?_
      rw [wrap_succ (by omega)]
      refine ⟨k + 1, ⟨by omega, fun x hx => ?_⟩, by omega, .wk⟩
      rcases hms x hx with h | rfl
      · exact he x h
      · exact h2
  have hd := of_decide_eq_false hd
  obtain rfl : k = l.length := by omega
  rw [List.take_length] at he
  refine goB ?_
  exact Ret.ff rfl (fun h => h (tight_sub.2 ⟨by omega, by omega, he⟩))
open Classical in
noncomputable def drvR (r : Rx) (c : UInt8) : Rx := if r.valid ∧ okB c ∧ (drvX c r).valid then drvX c r else rx0
open Classical in
noncomputable def drvE (r : Rx) (c : UInt8) : Int := if r.valid ∧ okB c then (if (drvX c r).valid then 0 else 2) else 4
theorem derive35 (r : Rx) (c : UInt8) (hok : r.ok) (hc : r.cnt ≤ 1000000000) : Fn Try.prog 35 [encX r, chr c] (.tup [encX (drvR r c), .int (drvE r c)]) := by
  have i1 := valid_ok r hok hc
  have i2 := fun h : r.valid => derive_ok c r h.2 h.1.2 h.1.1
  have hb := fun h : r.valid => drv_big (c := c) h.1.2 h.1.1
  have hw := fun h : r.valid => drv_wf c r h.2
  have i3 := fun h : r.valid => copied_ok (drvX c r) (wf_ok _ (hw h)) (by have := hb h; omega)
  have i4 := fun h : r.valid => validB_ok (drvX c r) (wf_ok _ (hw h)) (by have := hb h; omega)
  have hR1 : r.valid → okB c → (drvX c r).valid → drvR r c = drvX c r := fun a b d => if_pos ⟨a, b, d⟩
  have hR2 : ¬ (r.valid ∧ okB c ∧ (drvX c r).valid) → drvR r c = rx0 := fun h => if_neg h
  have hE0 : ¬ (r.valid ∧ okB c) → drvE r c = 4 := fun h => if_neg h
  have hE1 : r.valid → okB c → (drvX c r).valid → drvE r c = 0 := fun a b d => by rw [drvE, if_pos ⟨a, b⟩, if_pos d]
  have hE2 : r.valid → okB c → ¬ (drvX c r).valid → drvE r c = 2 := fun a b d => by rw [drvE, if_pos ⟨a, b⟩, if_neg d]
  generalize drvE r c = e at *
  generalize drvR r c = d at *
  have hP : ∀ n : Int, Pu (.tup [.agg [.int 0, str ByteArray.empty, .lst []], .int n]) := fun n => Pu_tup2 (Pu_aggX 0 ByteArray.empty []) (.base _)
  have hP0 : encX rx0 = .agg [.int 0, str ByteArray.empty, .lst []] := rfl
  obtain ⟨o, s, l⟩ := r
  rw [encX_mk] at i1 i2 ⊢
  refine Fn.intro' [(0, .agg [.int o, str s, .lst (l.map encX)]), (1, chr c)] 2 28 Try.func35 (by kernel_rfl) rfl rfl rfl rfl rfl ?_
  refine goB ?_
  refine callA (i1) ?_
  refine goB ?_
  refine ifA (fun h1 => ?_) (fun h1 => ?_)
  · have h1 : ¬ ((Rx.mk o s l).valid ∧ okB c) := by
      simp at h1
      rintro ⟨h2, h3⟩
      unfold okB at h3
      rcases h1 with (h1 | h1) | h1
      · exact h1 h2
      · omega
      · omega
    rw [hR2 (fun h => h1 ⟨h.1, h.2.1⟩), hE0 h1, hP0]
    refine goB ?_
    refine bldA pl24 zero24 ?_
    refine goB ?_
    exact ⟨[.agg [.int 0, str ByteArray.empty, .base (.slice none 0 0)], .int 4], by kernel_rfl, Pub.tup' ⟨Pub.agg' (show PubL _ 0 [_, _, _] [_, _, _] from ⟨.pu (.base _), .pu (.base _), .nilS, trivial⟩), .pu (.base _), trivial⟩⟩
  have h1 : (Rx.mk o s l).valid ∧ okB c := by
    simp at h1
    unfold okB
    exact ⟨h1.1.1, by omega⟩
  have i2 := i2 h1.1
  have i3 := i3 h1.1
  have i4 := i4 h1.1
  have hR1 := hR1 h1.1 h1.2
  have hE1 := hE1 h1.1 h1.2
  have hE2 := hE2 h1.1 h1.2
  have hR2 : ¬ (drvX c (.mk o s l)).valid → d = rx0 := fun h => hR2 fun h2 => h h2.2.2
  generalize drvX c (.mk o s l) = y at *
  rcases y with ⟨o2, s2, l2⟩
  rw [encX_mk] at i2 i3 i4
  refine goB ?_
  refine callA (i2) ?_
  refine callA (i3) ?_
  refine goB ?_
  refine callA (i4) ?_
  refine goB ?_
  refine ifA (fun h2 => ?_) (fun h2 => ?_)
  · have h2 : ¬ (Rx.mk o2 s2 l2).valid := by simpa using h2
    rw [hR2 h2, hE2 h2, hP0]
    refine goB ?_
    refine bldA pl24 zero24 ?_
    refine goB ?_
    exact ⟨[.agg [.int 0, str ByteArray.empty, .base (.slice none 0 0)], .int 2], by kernel_rfl, Pub.tup' ⟨Pub.agg' (show PubL _ 0 [_, _, _] [_, _, _] from ⟨.pu (.base _), .pu (.base _), .nilS, trivial⟩), .pu (.base _), trivial⟩⟩
  have h2 : (Rx.mk o2 s2 l2).valid := by simpa using h2
  rw [hR1 h2, hE1 h2, encX_mk]
  refine goB ?_
  exact ⟨[.agg [.int o2, str s2, .lst (l2.map encX)], .int 0], by kernel_rfl, .pu (Pu_tup2 (Pu_aggX o2 s2 l2) (.base _))⟩
end Go.Ab
set_option maxHeartbeats 4000000
namespace Go.Ab
open Go Go.Ab Go.Proofs Go.Ab.Ty

/-! ### the law of derivatives -/
abbrev oneB (c : UInt8) : ByteArray := ⟨#[c]⟩
theorem isTx_one (c : UInt8) : isTx (oneB c) ↔ okB c := by
  have hs : (oneB c).size = 1 := rfl
  unfold isTx
  constructor
  · intro h; exact h.2 0 (by omega)
  · intro h
    refine ⟨by omega, fun i hi => ?_⟩
    have : i = 0 := by omega
    subst this
    exact h
theorem one_app (c : UInt8) (t : ByteArray) : (oneB c ++ t).size = 1 + t.size := by rw [ByteArray.size_append]; rfl
theorem one_0 (c : UInt8) (t : ByteArray) (h : 0 < (oneB c ++ t).size) : (oneB c ++ t)[0] = c := by
  rw [ByteArray.getElem_append_left (by show 0 < 1; omega)]; rfl
theorem one_ext (c : UInt8) (t : ByteArray) : (oneB c ++ t).extract 1 (oneB c ++ t).size = t := by
  rw [one_app]
  simp [ByteArray.ext_iff, oneB]
theorem isTx_app {c : UInt8} {t : ByteArray} (hc : okB c) (ht : isTx t) (hs : t.size ≤ 30) : isTx (oneB c ++ t) := by
  refine ⟨by rw [one_app]; omega, fun i hi => ?_⟩
  rw [one_app] at hi
  rcases Nat.eq_zero_or_pos i with rfl | h
  · rw [one_0]; exact hc
  · rw [ByteArray.getElem_append_right (by show 1 ≤ i; omega)]
    exact ht.2 _ _
theorem der_M {r : Rx} (hw : r.wf) {c : UInt8} {t : ByteArray} : M (oneB c ++ t) r 0 (oneB c ++ t).size ↔ M t (drvX c r) 0 t.size := by
  have h1 := one_app c t
  have hC := fun r => M_sub (oneB c ++ t) (a := 1) (b := (oneB c ++ t).size) (by omega) (Nat.le_refl _) r
  rw [one_ext] at hC
  have := drv_M (t := t) (s := oneB c ++ t) (m := t.size) (fun r => by have := hC r; rwa [h1, show 1 + t.size - 1 = t.size by omega] at this) (by omega) rfl (one_0 c t (by omega)) r hw t.size (Nat.le_refl _)
  rw [this, h1]
theorem Pu_strs27 (L : List ByteArray) : Pu (.lst (L.map str)) := .lst fun e he c hc => by
  obtain ⟨x, _, rfl⟩ := List.mem_map.1 he
  simp only [AV.cells, List.mem_singleton] at hc; subst hc; exact .base _
theorem u8_one (c : UInt8) : (⟨([((c.toNat : Nat) : Int)].map fun n => UInt8.ofNat n.toNat).toArray⟩ : ByteArray) = oneB c := by simp
open Classical in
theorem law_derives (r : Rx) (hok : r.ok) (c : UInt8) (L : List ByteArray) : Fn Try.prog 7 [encX r, chr c, .lst (L.map str)] (.bool true) := by
  have i1 := small_ok [r] (Nat.le_of_lt (by decide : 1 < maxLen)) (by simpa using hok)
  have i2 := refValid_ok r hok
  have i3 := refText_ok (oneB c)
  have hsm : smallX r → r.cnt ≤ 80 := fun h => h.1
  have j1 := fun h : r.cnt ≤ 80 => derive35 r c hok (by omega)
  have j2 := nodes8_ok r hok
  have j3 := loose_ok r hok
  have j0 := awake_true
  have hdok : (drvR r c).ok := by
    by_cases h : r.valid ∧ okB c ∧ (drvX c r).valid
    · rw [show drvR r c = drvX c r from if_pos h]; exact wf_ok _ h.2.2.2
    · rw [show drvR r c = rx0 from if_neg h]; exact .mk _ _ _ (by decide) (by decide) (by simp)
  have j4 := refValid_ok (drvR r c) hdok
  have j5 := refEq_ok (drvR r c) rx0 hdok
  have j6 := fun t : ByteArray => refMatches_ok r hok (oneB c ++ t)
  have j7 := fun t : ByteArray => refMatches_ok (drvR r c) hdok t
  have j8 := fun t : ByteArray => refText_ok t
  have h0 : ¬ (r.valid ∧ isTx (oneB c)) → drvE r c = 4 ∧ drvR r c = rx0 := fun h => by
    rw [isTx_one] at h
    exact ⟨if_neg h, if_neg fun h2 => h ⟨h2.1, h2.2.1⟩⟩
  have h1 : r.valid → isTx (oneB c) → (drvE r c = 2 ∧ drvR r c = rx0 ∧ ¬ (r.tight ∧ r.cnt ≤ 8)) ∨ (drvE r c = 0 ∧ drvR r c = drvX c r ∧ (drvX c r).valid) := fun a b => by
    rw [isTx_one] at b
    by_cases h : (drvX c r).valid
    · exact .inr ⟨by rw [drvE, if_pos ⟨a, b⟩, if_pos h], if_pos ⟨a, b, h⟩, h⟩
    · exact .inl ⟨by rw [drvE, if_pos ⟨a, b⟩, if_neg h], if_neg fun h2 => h h2.2.2, fun h2 => h (drv_valid c a.2 h2.1 h2.2)⟩
  have h2 : r.valid → isTx (oneB c) → (drvX c r).valid → ∀ t : ByteArray, isTx t → t.size ≤ 30 → (fit r (oneB c ++ t) ∧ M (oneB c ++ t) r 0 (oneB c ++ t).size ↔ fit (drvX c r) t ∧ M t (drvX c r) 0 t.size) := fun a b d t ht hs => by
    have := isTx_app ((isTx_one c).1 b) ht hs
    rw [der_M a.2]
    exact ⟨fun h => ⟨⟨d, ht⟩, h.2⟩, fun h => ⟨⟨a, this⟩, h.2⟩⟩
  unfold matA at j6 j7
  generalize drvE r c = e at *
  generalize drvR r c = d at *
  rcases d with ⟨o2, s2, l2⟩
  rw [encX_mk] at j1 j4 j5 j7
  rw [show encX rx0 = .agg [.int 0, str ByteArray.empty, .lst []] from rfl] at j5
  obtain ⟨o, s, l⟩ := r
  rw [List.map_cons, List.map_nil, encX_mk] at i1
  rw [encX_mk] at i2 j1 j2 j3 j6 ⊢
  refine Fn.intro' [(0, .agg [.int o, str s, .lst (l.map encX)]), (1, chr c), (2, .lst (L.map str))] 3 119 Try.func7 (by kernel_rfl) rfl rfl rfl rfl rfl ?_
  refine goA ?_
  refine bslA Try.underlying22 sz24 ?_
  refine callA (i1) ?_
  refine goB ?_
  refine ifA (fun q1 => ?_) (fun q1 => ?_)
  · refine goB ?_
    exact Ret.bool rfl (by simp)
  simp at q1
  have h80 := hsm q1.1
  have j1 := j1 h80
  refine goB ?_
  refine callA (j1) ?_
  refine goB ?_
  refine callA (i2) ?_
  refine goB ?_
  refine gqA (h := fun hg => ql_bsl (es := [chr c]) Try.underlying32 sz5 (by decide) (by kernel_rfl) (by decide) (by simp +decide only [List.map, go_sem] <;> rfl) (by simp +decide only [List.map, go_sem] <;> rfl) (by rfl)) (hr := ?_)
  refine gqA (h := fun hg => ql_bytesStrL (l := [((c.toNat : Nat) : Int)]) (by simp +decide only [go_sem] <;> rfl) (.pu (.lst fun e he d hd => by rw [List.map_cons, List.map_nil, List.mem_singleton] at he; subst he; simp only [AV.cells, List.mem_singleton] at hd; subst hd; exact .base _)) Try.underlying32 Try.underlying5 Try.underlying9) (hr := ?_)
  rw [u8_one]
  refine gcallA (i := fun hg => i3) (hr := ?_)
  refine goB ?_
  refine ifA (fun q2 => ?_) (fun q2 => ?_)
  · have q2 : ¬ ((Rx.mk o s l).valid ∧ isTx (oneB c)) := by
      simp at q2; rintro ⟨a, b⟩
      rcases q2 with q2 | q2
      · exact q2 a
      · exact q2 b
    obtain ⟨e0, d0⟩ := h0 q2
    refine goB ?_
    refine gqA (h := fun hg => ql_build pl24 zero24 (by simp +decide only [List.map, go_sem] <;> rfl)) (hr := ?_)
    refine ARun.gl (v := .bool (decide (Rx.mk o2 s2 l2 = rx0))) rfl rfl (by simp +decide only [go_sem] <;> rfl) (fun hg => ql_callM (args := [.agg [.int o2, str s2, .lst (l2.map encX)], .agg [.int 0, str ByteArray.empty, .lst []]]) rfl (by simp +decide only [go_sem] <;> rfl) (by simp +decide only [go_sem, List.map, LendL]; exact ⟨.pu (Pu_aggX o2 s2 l2), .agg' (show LendL _ [_, _, _] [_, _, _] from ⟨.pu (.base _), .pu (.base _), .nilS, trivial⟩)⟩) (.base _) j5) ?_
    refine goB ?_
    refine gcallA (i := fun hg => j0) (hr := ?_)
    refine goB ?_
    exact Ret.bool rfl (by simp [e0, d0])
  have q2 : (Rx.mk o s l).valid ∧ isTx (oneB c) := by simpa using q2
  have h1 := h1 q2.1 q2.2
  have h2 := h2 q2.1 q2.2
  refine goB ?_
  refine ifA (fun q3 => ?_) (fun q3 => ?_)
  · have q3 : e = 2 := by simpa using q3
    obtain ⟨_, d0, hn⟩ : e = 2 ∧ Rx.mk o2 s2 l2 = rx0 ∧ ¬ ((Rx.mk o s l).tight ∧ (Rx.mk o s l).cnt ≤ 8) := by
      rcases h1 with h1 | h1
      · exact h1
      · omega
    refine goB ?_
    refine callA (j2) ?_
    refine goB ?_
    refine gcallA (i := fun hg => j3) (hr := ?_)
    refine goB ?_
    refine gqA (h := fun hg => ql_build pl24 zero24 (by simp +decide only [List.map, go_sem] <;> rfl)) (hr := ?_)
    refine ARun.gl (v := .bool (decide (Rx.mk o2 s2 l2 = rx0))) rfl rfl (by simp +decide only [go_sem] <;> rfl) (fun hg => ql_callM (args := [.agg [.int o2, str s2, .lst (l2.map encX)], .agg [.int 0, str ByteArray.empty, .lst []]]) rfl (by simp +decide only [go_sem] <;> rfl) (by simp +decide only [go_sem, List.map, LendL]; exact ⟨.pu (Pu_aggX o2 s2 l2), .agg' (show LendL _ [_, _, _] [_, _, _] from ⟨.pu (.base _), .pu (.base _), .nilS, trivial⟩)⟩) (.base _) j5) ?_
    refine goB ?_
    refine gcallA (i := fun hg => j0) (hr := ?_)
    refine goB ?_
    exact Ret.bool rfl (by
      simp [d0]
      by_cases h : (Rx.mk o s l).cnt ≤ 8
      · exact .inr fun h3 => hn ⟨h3, h⟩
      · exact .inl (by omega))
  have q3 : e ≠ 2 := by simpa using q3
  obtain ⟨e0, d0, hv⟩ : e = 0 ∧ Rx.mk o2 s2 l2 = drvX c (.mk o s l) ∧ (drvX c (.mk o s l)).valid := by
    rcases h1 with h1 | h1
    · omega
    · exact h1
  have h2 := h2 hv
  rw [← d0] at h2 hv
  refine goB ?_
  refine gcallA (i := fun hg => j4) (hr := ?_)
  refine goB ?_
  refine ifA (fun q4 => ?_) (fun q4 => ?_)
  · exfalso
    simp [e0, hv] at q4
  clear j5 h0 h1
  refine goB ?_
  refine keA [1, 2, 3, 7, 9] ?_
  refine AWp.loopP (J := fun k : Nat => k ≤ L.length) (fun k => [(9, .int k)]) (fun k => L.length - k) 0 (Nat.zero_le _) .wk ?_
  intro k hk
  refine goB ?_
  refine ifA (fun q5 => ?_) (fun q5 => ?_)
  · have q5 := of_decide_eq_true q5
    have hk2 : k < L.length := by omega
    have hg : nth default L (k : Int) = L[k] := nth_eq hk2
    have j6 := j6 L[k]
    have j7 := j7 L[k]
    have j8 := j8 L[k]
    have h2 := h2 L[k]
    refine goB ?_
    rw [hg]
    refine gqA (h := fun hg => ql_idxI (l := L) (by simp +decide only [go_sem] <;> rfl) (by simp +decide only [go_sem] <;> rfl) Try.underlying50 (by omega) (by simp; omega) (by kernel_rfl)) (hr := ?_)
    rw [hg]
    refine goB ?_
    refine gcallA (i := fun hg => j8) (hr := ?_)
    refine goB ?_
    refine ifA (fun q6 => ?_) (fun q6 => ?_)
    · refine goB ?_
      rw [wrap_succ (by omega)]
      exact ⟨k + 1, by omega, by omega, .wk⟩
    have q6 : L[k].size ≤ 30 ∧ isTx L[k] := by
      simp at q6
      exact ⟨by omega, q6.2⟩
    have h2 := h2 q6.2 q6.1
    have hsz := one_app c L[k]
    have hAB : decide (fit (Rx.mk o s l) (oneB c ++ L[k]) ∧ M (oneB c ++ L[k]) (Rx.mk o s l) 0 (oneB c ++ L[k]).size) = decide (fit (Rx.mk o2 s2 l2) L[k] ∧ M L[k] (Rx.mk o2 s2 l2) 0 L[k].size) := by rw [decide_eq_decide]; exact h2
    generalize decide (fit (Rx.mk o s l) (oneB c ++ L[k]) ∧ M (oneB c ++ L[k]) (Rx.mk o s l) 0 (oneB c ++ L[k]).size) = bA at j6 hAB
    generalize decide (fit (Rx.mk o2 s2 l2) L[k] ∧ M L[k] (Rx.mk o2 s2 l2) 0 L[k].size) = bB at j7 hAB
    subst hAB
    have h1c : (oneB c).size = 1 := rfl
    refine keA [1, 2, 3, 7, 9] ?_
    refine goB ?_
    refine drA (k := 14) follows (hr := ?_)
    refine goC ?_
    refine bslA Try.underlying32 sz5 ?_
    refine ARun.q1 rfl rfl (ql_bytesStrL (l := [((c.toNat : Nat) : Int)]) (by simp +decide only [go_sem] <;> rfl) (.pu (.lst fun e he d hd => by rw [List.map_cons, List.map_nil, List.mem_singleton] at he; subst he; simp only [AV.cells, List.mem_singleton] at hd; subst hd; exact .base _)) Try.underlying32 Try.underlying5 Try.underlying9) ?_
    rw [u8_one]
    refine goB ?_
    rw [hg]
    refine ARun.q1 rfl rfl (ql_addStr (a := oneB c) (b := L[k]) rfl rfl (by omega)) ?_
    refine callA (j6) ?_
    refine goB ?_
    refine drA (k := 10) follows (hr := ?_)
    refine goB ?_
    rw [hg]
    refine callA (j7) ?_
    refine goB ?_
    refine ifA (fun q7 => ?_) (fun q7 => ?_)
    · simp at q7
    refine goB ?_
    rw [wrap_succ (by omega)]
    exact ⟨k + 1, by omega, by omega, .wk⟩
  refine goB ?_
  refine callA (j0) ?_
  refine goB ?_
  exact Ret.bool rfl (by simp)
end Go.Ab
