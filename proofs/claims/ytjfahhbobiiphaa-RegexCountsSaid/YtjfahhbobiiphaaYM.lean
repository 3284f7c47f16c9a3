/- Part of the proof. -/
import Derived.Test.YtjfahhbobiiphaaYL
import Derived.Test.YtjfahhbobiiphaaXV
import Derived.Test.YtjfahhbobiiphaaAbF
set_option linter.unusedSimpArgs false
set_option linter.unusedVariables false
set_option maxHeartbeats 4000000
namespace Go.Ab
open Go Go.Ab Go.Proofs Go.Ab.Ty

abbrev cxA (c : Cx) : AV := .agg [.lst (c.b.map str), .lst (c.f.map u6), u6 c.fi, u6 c.la, .bool c.em]
def encCx (c : Cx) : AV := .iptr (cxA c) 0
abbrev chT (nb nf : Nat) (fi la : B64) (em : Bool) : ABlk := ⟨183, 5, [.agg [.own 2 nb 0 nb, .own 3 nf 0 nf, u6 fi, u6 la, .bool em]]⟩
abbrev boxX (o : Int) (s : ByteArray) (l : List Rx) : ABlk := ⟨24, 3, [.agg [.int o, str s, .lst (l.map encX)]]⟩
theorem Pu_strs {l : List ByteArray} : ∀ x ∈ l, ∀ c ∈ (str x).cells, Pu c := fun x _ c hc => by
  simp only [AV.cells, List.mem_singleton] at hc; subst hc; exact .base _
theorem Pu_u6s {l : List B64} : ∀ x ∈ l, ∀ c ∈ (u6 x).cells, Pu c := fun x _ c hc => by
  simp only [AV.cells, List.mem_singleton] at hc; subst hc; exact .base _
theorem chT_in {r : Nat → Option Nat} {H : List ABlk} (h1 : r 2 = some 1) (h2 : r 3 = some 2) (nb nf : Nat) (fi la : B64) (em : Bool) : BlkMv r H (chT nb nf fi la em) (chS nb nf fi la em) :=
  .one (show MvL r H [_, _, _, _, _] [_, _, _, _, _] from ⟨.own h1, .own h2, .pu (.base _), .pu (.base _), .pu (.base _), trivial⟩)
theorem chT_out {r : Nat → Option Nat} {H : List ABlk} (h1 : r 1 = some 2) (h2 : r 2 = some 3) (nb nf : Nat) (fi la : B64) (em : Bool) : BlkMv r H (chS nb nf fi la em) (chT nb nf fi la em) :=
  .one (show MvL r H [_, _, _, _, _] [_, _, _, _, _] from ⟨.own h1, .own h2, .pu (.base _), .pu (.base _), .pu (.base _), trivial⟩)
theorem chartOf_ok (r : Rx) (hok : r.ok) (hwf : r.wf) (hc : r.cnt ≤ 800) : Fn Try.prog 150 [encX r] (encCx (chX0 r)) := by
  have i1 := add_ok 0 0 false r hok hwf ⟨[], []⟩ (by simp; omega) (by simp; omega)
  unfold chX0
  generalize gA r ⟨[], []⟩ = q at *
  obtain ⟨⟨b1, f1⟩, e1⟩ := q
  obtain ⟨o, s, l⟩ := r
  rw [encX_mk] at i1
  rw [encX_mk]
  simp only at i1 ⊢
  refine Fn.intro' [(0, .agg [.int o, str s, .lst (l.map encX)])] 1 26 Try.func150 (by kernel_rfl) rfl rfl rfl rfl rfl ?_
  refine goB ?_
  refine bldA pl183 zero183 ?_
  refine zp rfl rfl (pl_box (by simp +decide only [go_sem]; rfl) rfl) ?_
  refine ARun.q1 rfl rfl (ql_fun (v := .ptr 1 1 0 0) (by simp +decide only [go_sem] <;> rfl)) ?_
  refine zN (z1 ?_)
  refine AWp.weaken (Wk.nilC (H2 := [boxX o s l, ⟨183, 5, [.agg [.own 2 0 0 0, .base (.slice none 0 0), u6 0, u6 0, .bool false]]⟩]) (E2 := [(3, .ptr 1 1 0 0), (1, .ptr 0 1 0 0)]) 9 1 ?_ ?_) ?_
  · exact ⟨.pu (PuB_box o s l), .one (show NilL _ [_, _, _, _, _] [_, _, _, _, _] from ⟨.nil rfl, .pu (.base _), .pu (.base _), .pu (.base _), .pu (.base _), trivial⟩), trivial⟩
  · exact ⟨.ptr, .ptr, trivial⟩
  refine AWp.weaken (Wk.nilC (H2 := [boxX o s l, ⟨183, 5, [.agg [.own 2 0 0 0, .own 3 0 0 0, u6 0, u6 0, .bool false]]⟩, ⟨9, 1, []⟩]) (E2 := [(3, .ptr 1 1 0 0), (1, .ptr 0 1 0 0)]) 164 1 ?_ ?_) ?_
  · exact ⟨.pu (PuB_box o s l), .one (show NilL _ [_, _, _, _, _] [_, _, _, _, _] from ⟨.own, .nil rfl, .pu (.base _), .pu (.base _), .pu (.base _), trivial⟩), .pu (fun e he => by cases he), trivial⟩
  · exact ⟨.ptr, .ptr, trivial⟩
  refine goB ?_
  refine ARun.p1 rfl rfl (pl_callN (d' := encE e1) [1, 2, 3] [chT b1.length f1.length 0 0 false, chB b1, chF f1] i1 (by decide) ⟨⟨_, rfl, chT_in (by decide) (by decide) _ _ _ _ _⟩, ⟨_, rfl, .pu (PuB_chB [])⟩, ⟨_, rfl, .pu (PuB_chF [])⟩, trivial⟩
    ⟨chT_out (by simp [rb]) (by simp [rb]) _ _ _ _ _, .pu (PuB_chB _), .pu (PuB_chF _), trivial⟩ rfl rfl rfl ⟨.ptr (by decide), .pu (Pu_aggX _ _ _), trivial⟩ (.pu (Pu_E _))) ?_
  simp only [setL, List.set_cons_succ, List.set_cons_zero]
  refine goB ?_
  with_reducible apply AWp.drawK (k := 15) [none, none, none, none, none, none, none, none, none, none, none, some 0, none, none, some 1] (fun i => match i with
      | 0 => [boxX o s l, chT b1.length f1.length 0 0 false, chB b1, chF f1, encO e1]
      | 1 => [boxX o s l, chT b1.length f1.length e1.fi 0 false, chB b1, chF f1, encO e1]
      | _ => [boxX o s l, chT b1.length f1.length e1.fi e1.la false, chB b1, chF f1, encO e1]) 2 follows
  · refine ⟨rfl, rfl, by kernel_rfl, by decide, ?_, ?_⟩
    · simp +decide only [go_sem, List.map, List.take]; rfl
    · simp +decide only [go_sem, List.map, List.drop]; rfl
  · kernel_rfl
  · rfl
  refine GRun.qf2 rfl rfl (by simp +decide only [go_sem] <;> rfl) (by simp +decide only [go_sem] <;> rfl) (by simp +decide only [go_sem] <;> rfl) ?_
  refine GRun.qf2 rfl rfl (by simp +decide only [go_sem] <;> rfl) (by simp +decide only [go_sem] <;> rfl) (by simp +decide only [go_sem] <;> rfl) ?_
  refine GRun.qf2 rfl rfl (by simp +decide only [go_sem] <;> rfl) (by simp +decide only [go_sem] <;> rfl) (by simp +decide only [go_sem] <;> rfl) ?_
  refine GRun.qf2 rfl rfl (by simp +decide only [go_sem] <;> rfl) (by simp +decide only [go_sem] <;> rfl) (by simp +decide only [go_sem] <;> rfl) ?_
  refine GRun.qf2 (v := u6 e1.fi) rfl rfl (by simp +decide only [go_sem] <;> rfl) (by simp +decide only [go_sem] <;> rfl) (by simp +decide only [go_sem] <;> rfl) ?_
  refine GRun.qf2 rfl rfl (by simp +decide only [go_sem] <;> rfl) (by simp +decide only [go_sem] <;> rfl) (by simp +decide only [go_sem] <;> rfl) ?_
  refine GRun.qf2 (v := u6 e1.la) rfl rfl (by simp +decide only [go_sem] <;> rfl) (by simp +decide only [go_sem] <;> rfl) (by simp +decide only [go_sem] <;> rfl) ?_
  refine GRun.qf2 rfl rfl (by simp +decide only [go_sem] <;> rfl) (by simp +decide only [go_sem] <;> rfl) (by simp +decide only [go_sem] <;> rfl) ?_
  refine GRun.qf2 (v := .bool e1.em) rfl rfl (by simp +decide only [go_sem] <;> rfl) (by simp +decide only [go_sem] <;> rfl) (by simp +decide only [go_sem] <;> rfl) ?_
  refine GRun.qf2 rfl rfl (by simp +decide only [go_sem] <;> rfl) (by simp +decide only [go_sem] <;> rfl) (by simp +decide only [go_sem] <;> rfl) ?_
  refine GRun.qf2 rfl rfl (by simp +decide only [go_sem] <;> rfl) (by simp +decide only [go_sem] <;> rfl) (by simp +decide only [go_sem] <;> rfl) ?_
  refine GRun.p1 (v := .bad) rfl rfl (fun ρ' h => ?_) ?_
  · exact pl_store (P := Try.prog) (ρ := ρ') (H := [boxX o s l, chT b1.length f1.length 0 0 false, chB b1, chF f1, encO e1]) (b := 1) (tot := 1) (i := 0) (off := 2) (v := u6 e1.fi) ((h (.tmp 20) (by simp [Op.operands, Call.operands])).trans (by simp +decide only [go_sem] <;> rfl)) ((h (.tmp 14) (by simp [Op.operands, Call.operands])).trans (by simp +decide only [go_sem] <;> rfl)) rfl rfl rfl sz164 rfl rfl
  refine GRun.qf2 rfl rfl (by simp +decide only [go_sem] <;> rfl) (by simp +decide only [go_sem] <;> rfl) (by simp +decide only [go_sem] <;> rfl) ?_
  refine GRun.qf2 rfl rfl (by simp +decide only [go_sem] <;> rfl) (by simp +decide only [go_sem] <;> rfl) (by simp +decide only [go_sem] <;> rfl) ?_
  refine GRun.p1 (v := .bad) rfl rfl (fun ρ' h => ?_) ?_
  · exact pl_store (P := Try.prog) (ρ := ρ') (H := [boxX o s l, chT b1.length f1.length e1.fi 0 false, chB b1, chF f1, encO e1]) (b := 1) (tot := 1) (i := 0) (off := 3) (v := u6 e1.la) ((h (.tmp 22) (by simp [Op.operands, Call.operands])).trans (by simp +decide only [go_sem] <;> rfl)) ((h (.tmp 16) (by simp [Op.operands, Call.operands])).trans (by simp +decide only [go_sem] <;> rfl)) rfl rfl rfl sz164 rfl rfl
  refine GRun.nil ?_
  refine goB ?_
  exact Ret.pub (vs := [.ptr 1 1 0 0]) (by kernel_rfl) (PubR.iptr (pre_ge (Nat.zero_le _)) rfl rfl rfl (show PubRL _ _ [_, _, _, _, _] [_, _, _, _, _] from ⟨.ownM (f := str) (l := b1) (pre_ge (Nat.zero_le _)) rfl rfl Pu_strs, .ownM (f := u6) (l := f1) (pre_ge (Nat.zero_le _)) rfl rfl Pu_u6s, .pu (.base _), .pu (.base _), .pu (.base _), trivial⟩))
theorem nthD6 (l : List B64) (k : Nat) : nth default l (k : Int) = l.getD k 0 := by simp [nth, List.getD_eq_getElem?_getD]; rfl
theorem nthDS (l : List ByteArray) (k : Nat) : nth default l (k : Int) = l.getD k ByteArray.empty := by simp [nth, List.getD_eq_getElem?_getD]; rfl
theorem toNat63 : Int.toNat 63 = 63 := rfl
attribute [go_sem] toNat63
open Classical in
theorem next_ok (c : Cx) (hb : c.b.length ≤ 900) (hf : c.f.length ≤ 900) (s : B64) (x : UInt8) : Fn Try.prog 138 [encCx c, u6 s, chr x] (u6 (nxC c s x)) := by
  unfold encCx cxA
  refine Fn.intro' [(0, .iptr (.agg [.lst (c.b.map str), .lst (c.f.map u6), u6 c.fi, u6 c.la, .bool c.em]) 0), (1, u6 s), (2, chr x)] 3 67 Try.func138 (by kernel_rfl) rfl rfl rfl rfl rfl ?_
  refine goB ?_
  refine AWp.joinP [(7, u6 (toC c s 0)), (17, .bad), (18, .bad), (19, .bad), (20, .bad)] ?_ ?_
  · refine ifA (fun h => ?_) (fun h => ?_)
    · refine goB ?_
      rw [toC, if_pos h]
      exact .wk
    · refine goB ?_
      rw [toC, if_neg (by simpa using h)]
      exact .wk
  refine goB ?_
  refine keA [0, 1, 2, 7, 24, 25, 26] ?_
  refine AWp.loopP (J := fun k : Nat => k ≤ c.f.length) (fun k => [(26, .int k), (7, u6 (toC c s k))]) (fun k => c.f.length - k) 0 (Nat.zero_le _) .wk ?_
  rintro k hk
  refine goB ?_
  refine ifA (fun hc => ?_) (fun hc => ?_)
  · simp at hc
    refine goB ?_
    rw [nthD6 c.f k]
    refine ifA (fun h2 => ?_) (fun h2 => ?_)
    · refine goB ?_
      rw [wrap_succ (by omega)]
      exact ⟨k + 1, by omega, by omega, by rw [show toC c s (k + 1) = toC c s k ||| c.f.getD k 0 from if_pos h2]; exact .wk⟩
    · refine goB ?_
      rw [wrap_succ (by omega)]
      exact ⟨k + 1, by omega, by omega, by rw [show toC c s (k + 1) = toC c s k from if_neg (fun h => by rw [h] at h2; cases h2)]; exact .wk⟩
  simp at hc
  obtain rfl : k = c.f.length := by omega
  refine goB ?_
  refine keA [0, 1, 2, 7, 10, 43, 44, 45] ?_
  refine AWp.loopP (J := fun k : Nat => k ≤ c.b.length) (fun k => [(45, .int k), (10, u6 (outC c (toC c s c.f.length) x k))]) (fun k => c.b.length - k) 0 (Nat.zero_le _) .wk ?_
  rintro k hk2
  refine goB ?_
  refine ifA (fun hc2 => ?_) (fun hc2 => ?_)
  · simp at hc2
    refine goB ?_
    rw [nthDS c.b k]
    refine gcallA (i := fun hg => indexByte_ok (c.b.getD k ByteArray.empty) x) (hr := ?_)
    refine goB ?_
    refine ifA (fun h2 => ?_) (fun h2 => ?_)
    · have h3 : (toC c s c.f.length).getLsbD k = true ∧ isIn (c.b.getD k ByteArray.empty) x := by
        cases ht : (toC c s c.f.length).getLsbD k with
        | false => rw [ht] at h2; simp at h2
        | true => rw [ht] at h2; exact ⟨rfl, (ixB_ge _ _).1 (by simpa using h2)⟩
      refine goB ?_
      rw [wrap_succ (by omega)]
      exact ⟨k + 1, by omega, by omega, by rw [show outC c (toC c s c.f.length) x (k + 1) = outC c (toC c s c.f.length) x k ||| bt k from if_pos h3]; exact .wk⟩
    · have h3 : ¬ ((toC c s c.f.length).getLsbD k = true ∧ isIn (c.b.getD k ByteArray.empty) x) := by
        rintro ⟨ht, hi⟩
        rw [ht] at h2
        have h4 := (ixB_ge _ _).2 hi
        rw [cond_true] at h2
        exact absurd h4 (of_decide_eq_false h2)
      refine goB ?_
      rw [wrap_succ (by omega)]
      exact ⟨k + 1, by omega, by omega, by rw [show outC c (toC c s c.f.length) x (k + 1) = outC c (toC c s c.f.length) x k from if_neg h3]; exact .wk⟩
  simp at hc2
  obtain rfl : k = c.b.length := by omega
  refine goB ?_
  exact Ret.data rfl rfl (.base _)
theorem accepts_ok (c : Cx) (s : B64) : Fn Try.prog 136 [encCx c, u6 s] (.bool (accC c s)) := by
  unfold encCx cxA
  refine Fn.intro' [(0, .iptr (.agg [.lst (c.b.map str), .lst (c.f.map u6), u6 c.fi, u6 c.la, .bool c.em]) 0), (1, u6 s)] 2 24 Try.func136 (by kernel_rfl) rfl rfl rfl rfl rfl ?_
  refine goB ?_
  exact Ret.bool rfl (by unfold accC; by_cases h : s &&& c.la = 0 <;> cases c.em <;> simp [h])
@[simp] theorem Pu_clo0 (f : FuncId) : Pu (.clo f []) := .clo (by simp)
open Classical in
theorem plain_ok (r : Rx) (hok : r.ok) : Fn Try.prog 149 [encX r] (.bool (decide r.tight)) := by
  induction r using Rx.ind with
  | h o s l ih =>
  obtain ⟨hs, hn, hl⟩ := ok_sub hok
  have h1 : ∀ x ∈ l, Fn Try.prog 157 [encX x] (.bool (@decide (¬ x.tight) (propDecidable _))) := fun x hx => by
    have i1 := ih x hx (hl x hx)
    obtain ⟨o1, s1, l1⟩ := x
    rw [encX_mk] at i1
    rw [encX_mk]
    refine Fn.intro' [(0, .agg [.int o1, str s1, .lst (l1.map encX)])] 1 6 Try.func157 (by kernel_rfl) rfl rfl rfl rfl rfl ?_
    refine goB ?_
    refine callA (i1) ?_
    refine goB ?_
    exact Ret.bool rfl (by simp)
  have i2 := containsFunc_ok (p := fun x => ¬ x.tight) hn (caps := []) (by simp) h1
  rw [encX_mk]
  refine Fn.intro' [(0, .agg [.int o, str s, .lst (l.map encX)])] 1 17 Try.func149 (by kernel_rfl) rfl rfl rfl rfl rfl ?_
  refine goB ?_
  refine gcallA (i := fun hg => i2) (hr := ?_)
  refine goB ?_
  exact Ret.bool rfl (by
    rw [decide_eq_true_iff, tight_sub]
    by_cases h7 : o = 7 <;> by_cases h8 : o = 8 <;> simp [h7, h8])
end Go.Ab
set_option maxHeartbeats 4000000
namespace Go.Ab
open Go Go.Ab Go.Proofs Go.Ab.Ty

inductive Ask | mk (op leaf : Int) (subs : List Ask)
def a0 : Ask := .mk 0 0 []
mutual
def encA : Ask → AV
  | .mk o f l => .agg [.int o, .int f, .lst (encAs l)]
def encAs : List Ask → List AV
  | [] => []
  | x :: l => encA x :: encAs l
end
theorem encAs_map : ∀ l : List Ask, encAs l = l.map encA
  | [] => rfl
  | x :: l => by rw [encAs, encAs_map l]; rfl
theorem encA_mk (o f : Int) (l : List Ask) : encA (.mk o f l) = .agg [.int o, .int f, .lst (l.map encA)] := by rw [encA, encAs_map]
theorem Ask.ind {p : Ask → Prop} (h : ∀ o f l, (∀ x ∈ l, p x) → p (.mk o f l)) : ∀ a, p a
  | .mk o f l => h o f l fun x hx => Ask.ind h x
theorem Pu_Ac (a : Ask) : ∀ c ∈ (encA a).cells, Pu c := by
  induction a using Ask.ind with
  | h o f l ih =>
  rw [encA_mk]
  intro c hc
  simp only [AV.cells, List.mem_cons, List.not_mem_nil, or_false] at hc
  rcases hc with rfl | rfl | rfl
  · exact .base _
  · exact .base _
  · exact .lst fun e he c hc => by
      obtain ⟨x, hx, rfl⟩ := List.mem_map.1 he
      exact ih x hx c hc
@[simp] theorem Pu_mapA (l : List Ask) : Pu (.lst (l.map encA)) := .lst fun e he c hc => by
  obtain ⟨x, hx, rfl⟩ := List.mem_map.1 he
  exact Pu_Ac x c hc
@[simp] theorem Pu_aggA (o f : Int) (l : List Ask) : Pu (.agg [.int o, .int f, .lst (l.map encA)]) := .agg fun c hc => by
  have := Pu_Ac (.mk o f l)
  rw [encA_mk] at this
  exact this c hc
theorem Pu_cx (c : Cx) : Pu (encCx c) := .iptr fun x hx => by
  simp only [cxA, AV.cells, List.mem_cons, List.not_mem_nil, or_false] at hx
  rcases hx with rfl | rfl | rfl | rfl | rfl
  · exact .lst fun e he c hc => by
      obtain ⟨x, hx, rfl⟩ := List.mem_map.1 he
      exact Pu_strs (l := [x]) x (by simp) c hc
  · exact .lst fun e he c hc => by
      obtain ⟨x, hx, rfl⟩ := List.mem_map.1 he
      exact Pu_u6s (l := [x]) x (by simp) c hc
  · exact .base _
  · exact .base _
  · exact .base _
theorem cells_cx (c : Cx) : (encCx c).cells = [encCx c] := rfl
theorem Pu_cxs {l : List Cx} : ∀ x ∈ l, ∀ c ∈ (encCx x).cells, Pu c := fun x _ c hc => by
  rw [cells_cx, List.mem_singleton] at hc; subst hc; exact Pu_cx x
mutual
noncomputable def spA : Rx → List Cx → (Ask × Bool) × List Cx
  | .mk o S l, cs => open Classical in if (Rx.mk o S l).tight then ((.mk 0 cs.length [], true), cs ++ [chX0 (.mk o S l)]) else if o = 4 ∨ o = 6 then ((a0, false), cs) else spL o l cs []
noncomputable def spL (o : Int) : List Rx → List Cx → List Ask → (Ask × Bool) × List Cx
  | [], cs, acc => ((.mk o 0 acc, true), cs)
  | x :: l, cs, acc => if (spA x cs).1.2 then spL o l (spA x cs).2 (acc ++ [(spA x cs).1.1]) else ((a0, false), (spA x cs).2)
end
abbrev cpS (n : Nat) : ABlk := ⟨155, 1, [.own 1 n 0 n]⟩
abbrev cpB (cs : List Cx) : ABlk := ⟨168, 1, cs.map encCx⟩
abbrev cpH (cs : List Cx) : List ABlk := [cpS cs.length, cpB cs]
theorem PuB_cpB (cs : List Cx) : ∀ e ∈ (cpB cs).es, ∀ c ∈ e.cells, Pu c := fun e he c hc => by
  obtain ⟨x, hx, rfl⟩ := List.mem_map.1 he
  exact Pu_cxs x hx c hc
theorem spA_len (r : Rx) : ∀ cs, (spA r cs).2.length ≤ cs.length + r.cnt := by
  induction r using Rx.ind with
  | h o S l ih =>
  intro cs
  rw [spA, cnt_mk]
  split
  · simp <;> omega
  split
  · simp only; omega
  have go : ∀ (l : List Rx) (cs : List Cx) (acc : List Ask), (∀ x ∈ l, ∀ cs, (spA x cs).2.length ≤ cs.length + x.cnt) → (spL o l cs acc).2.length ≤ cs.length + cnts l := by
    intro l
    induction l with
    | nil => intro cs acc _; rw [spL]; simp only; omega
    | cons x l ih2 =>
      intro cs acc hl
      have h1 := hl x (by simp) cs
      have h2 := ih2 (spA x cs).2 (acc ++ [(spA x cs).1.1]) fun y hy => hl y (by simp [hy])
      rw [spL, cnts]
      split
      · omega
      · simp only; omega
  have := go l cs [] ih
  omega
theorem sel2 {n : Nat} (b : Nat) (h : b < (⟨n, 2⟩ : Fr).m) : ([0, 1] : List Nat)[b]? = some b := by
  match b, h with
  | 0, _ => rfl
  | 1, _ => rfl
theorem cpS_pub {r : Nat → Option Nat} {H : List ABlk} (h1 : r 1 = some 1) (n : Nat) : BlkPub r H (cpS n) (cpS n) := .one (show PubRL r H [_] [_] from ⟨.own h1, trivial⟩)
theorem cpS_mv {r : Nat → Option Nat} {H : List ABlk} (h1 : r 1 = some 1) (n : Nat) : BlkMv r H (cpS n) (cpS n) := .one (show MvL r H [_] [_] from ⟨.own h1, trivial⟩)
theorem cpSel (cs : List Cx) (T : List ABlk) : SelB (ro [0, 1]) (cpH cs ++ T) [0, 1] (cpH cs) := ⟨⟨_, rfl, cpS_pub (by decide) _⟩, ⟨_, rfl, .pu (PuB_cpB _)⟩, trivial⟩
theorem cpPub {H T : List ABlk} {k : Nat} (hk : 2 ≤ k) (cs : List Cx) (hT : ∀ blk ∈ T, ∀ e ∈ blk.es, ∀ x ∈ e.cells, Pub H k x x) : ∀ blk ∈ cpH cs ++ T, ∀ e ∈ blk.es, ∀ x ∈ e.cells, Pub H k x x := by
  intro blk hb e he x hx
  simp only [cpH, List.cons_append, List.nil_append, List.mem_cons] at hb
  rcases hb with rfl | rfl | hb
  · rw [List.mem_singleton] at he; subst he
    simp only [AV.cells, List.mem_singleton] at hx
    subst hx; exact .own (by omega)
  · exact .pu (PuB_cpB _ e he x hx)
  · exact hT blk hb e he x hx
theorem len_snocC (cs : List Cx) (c : Cx) : (cs ++ [c]).length = cs.length + 1 := by simp
theorem len_snocA (cs : List Ask) (c : Ask) : (cs ++ [c]).length = cs.length + 1 := by simp
attribute [go_sem] len_snocC len_snocA
abbrev askO (o : Int) (n : Nat) : ABlk := ⟨158, 3, [.agg [.int o, .int 0, .own 5 n 0 n]]⟩
theorem pubAsk {H : List ABlk} (o : Int) (s : ByteArray) (l : List Rx) (n : Nat) (acc : List Ask) : ∀ blk ∈ [boxX o s l, ⟨158, 3, [.agg [.int 0, .int 0, .base (.slice none 0 0)]]⟩, askO o n, ⟨158, 3, acc.map encA⟩], ∀ e ∈ blk.es, ∀ x ∈ e.cells, Pub H 6 x x := by
  intro blk hb e he x hx
  simp only [List.mem_cons, List.not_mem_nil, or_false] at hb
  rcases hb with rfl | rfl | rfl | rfl
  · exact .pu (PuB_box o s l e he x hx)
  · rw [List.mem_singleton] at he; subst he
    simp only [AV.cells, List.mem_cons, List.not_mem_nil, or_false] at hx
    rcases hx with rfl | rfl | rfl <;> exact .pu (.base _)
  · rw [List.mem_singleton] at he; subst he
    simp only [AV.cells, List.mem_cons, List.not_mem_nil, or_false] at hx
    rcases hx with rfl | rfl | rfl
    · exact .pu (.base _)
    · exact .pu (.base _)
    · exact .own (by omega)
  · obtain ⟨y, hy, rfl⟩ := List.mem_map.1 he
    exact .pu (Pu_Ac y x hx)
open Classical in
theorem split_ok (r : Rx) : r.ok → r.wf → ∀ cs : List Cx, cs.length + r.cnt ≤ 700 → FnH Try.prog 133 [encX r, .ptr 0 1 0 0] (cpH cs) (.tup [encA (spA r cs).1.1, .bool (spA r cs).1.2]) (cpH (spA r cs).2) := by
  induction r using Rx.ind with
  | h o s l ih =>
  intro hok hwf cs hcs
  obtain ⟨hs, hn, hl⟩ := ok_sub hok
  have hwl := (wf_sub.1 hwf).2
  have i1 := plain_ok (.mk o s l) hok
  have i2 := chartOf_ok (.mk o s l) hok hwf (by omega)
  rw [cnt_mk] at hcs
  replace ih := fun x hx => ih x hx (hl x hx) (hwl x hx)
  rw [encX_mk] at i1 i2
  rw [encX_mk]
  refine FnH.intro' [(0, .agg [.int o, str s, .lst (l.map encX)]), (1, .ptr 0 1 0 0)] 2 64 2 Try.func133 (by kernel_rfl) rfl rfl rfl rfl rfl rfl ?_
  refine goD ?_
  refine callA (i1) ?_
  refine goD ?_
  refine ifA (fun h1 => ?_) (fun h1 => ?_)
  · have h1 : (Rx.mk o s l).tight := by simpa using h1
    rw [show spA (.mk o s l) cs = ((.mk 0 cs.length [], true), cs ++ [chX0 (.mk o s l)]) by rw [spA, if_pos h1]]
    generalize chX0 (.mk o s l) = c1 at *
    refine goD ?_
    refine keA [0, 1, 2, 4, 5] ?_
    with_reducible apply AWp.drawK (k := 8) [none, none, none, none, none, none, none, some 0] (fun i => match i with
      | 0 => [cpS cs.length, cpB cs, boxX o s l, ⟨158, 3, [.agg [.int 0, .int 0, .base (.slice none 0 0)]]⟩]
      | _ => [cpS cs.length, cpB (cs ++ [c1]), boxX o s l, ⟨158, 3, [.agg [.int 0, .int 0, .base (.slice none 0 0)]]⟩]) 1 follows
    · refine ⟨rfl, rfl, by kernel_rfl, by decide, ?_, ?_⟩
      · simp +decide only [go_sem, List.map, List.take]; rfl
      · simp +decide only [go_sem, List.map, List.drop]; rfl
    · kernel_rfl
    · rfl
    refine GRun.qf1 rfl rfl (by simp +decide only [go_sem] <;> rfl) (by simp +decide only [go_sem] <;> rfl) ?_
    refine GRun.qf1 rfl rfl (by simp +decide only [go_sem] <;> rfl) (by simp +decide only [go_sem] <;> rfl) ?_
    refine GRun.qf1 rfl rfl (by simp +decide only [go_sem] <;> rfl) (by simp +decide only [go_sem] <;> rfl) ?_
    refine GRun.qf1 (v := .own 1 cs.length 0 cs.length) rfl rfl (by simp +decide only [go_sem] <;> rfl) (by simp +decide only [go_sem] <;> rfl) ?_
    refine GRun.qf1 (v := .agg [.int o, str s, .lst (l.map encX)]) rfl rfl (by simp +decide only [go_sem] <;> rfl) (by simp +decide only [go_sem] <;> rfl) ?_
    refine GRun.q1 rfl rfl (fun c hc => ql_callC i2 rfl (by simp +decide only [go_sem] <;> rfl) (by simp +decide only [go_sem, List.map]) (by simp)) ?_
    refine GRun.q1 (v := .lst [encCx c1]) rfl rfl (fun c _ => ql_buildSlice (by decide) Try.underlying155 sz168 (by kernel_rfl) (by decide) (by (simp +decide only [List.map, go_sem] <;> rfl)) (by (simp +decide only [List.map, go_sem] <;> rfl)) rfl) ?_
    refine GRun.p1 (v := .own 1 (cs.length + 1) 0 (cs.length + 1)) rfl rfl (fun ρ' h => ?_) ?_
    · have := pl_append (P := Try.prog) (ρ := ρ') (H := [cpS cs.length, cpB cs, boxX o s l, ⟨158, 3, [.agg [.int 0, .int 0, .base (.slice none 0 0)]]⟩]) (b := 1) (tot := cs.length) (es := [encCx c1]) ((h (.tmp 16) (by simp [Op.operands, Call.operands])).trans (by simp +decide only [go_sem] <;> rfl)) ((h (.tmp 19) (by simp [Op.operands, Call.operands])).trans (by simp +decide only [go_sem] <;> rfl)) rfl (by simp) Try.underlying155 el168 rfl rfl (by simp) (fun e he => by rw [List.mem_singleton] at he; subst he; exact ⟨rfl, rfl⟩) (by simp; omega) (by simp; omega)
      simp only [cpB, List.map_append, List.map_cons, List.map_nil]; exact this
    refine GRun.nil ?_
    refine goD ?_
    rw [wrap_id (by omega) (by omega), show ((cs.length + 1 : Nat) : Int) - 1 = (cs.length : Int) by omega]
    refine bldA pl158 zero158 ?_
    refine goD ?_
    exact RetH.of (vs := [.agg [.int 0, .int cs.length, .base (.slice none 0 0)], .bool true]) [0, 1] (by kernel_rfl) (by decide) (fun b hb => sel2 b hb) (by have := cpSel (cs ++ [c1]) [boxX o s l, ⟨158, 3, [.agg [.int 0, .int cs.length, .base (.slice none 0 0)]]⟩]; simp only [cpH, List.length_append, List.length_cons, List.length_nil] at this ⊢; exact this)
      (PubR.tup' (show PubRL _ _ [_, _] [_, _] from ⟨by rw [encA_mk]; exact PubR.agg' (show PubRL _ _ [_, _, _] [_, _, _] from ⟨.pu (.base _), .pu (.base _), .nilS, trivial⟩), .pu (.base _), trivial⟩))
  have h1 : ¬ (Rx.mk o s l).tight := by simpa using h1
  refine goD ?_
  refine ifA (fun h2 => ?_) (fun h2 => ?_)
  · have h2 : o = 4 ∨ o = 6 := by
      by_cases h : o = 4
      · exact .inl h
      · rw [decide_eq_false h] at h2
        exact .inr (by simpa using h2)
    rw [show spA (.mk o s l) cs = ((a0, false), cs) by rw [spA, if_neg h1, if_pos h2]]
    refine goD ?_
    refine bldA pl158 zero158 ?_
    refine goD ?_
    exact RetH.of (vs := [.agg [.int 0, .int 0, .base (.slice none 0 0)], .bool false]) [0, 1] (by kernel_rfl) (by decide) (fun b hb => sel2 b hb) (cpSel cs _)
      (PubR.tup' (show PubRL _ _ [_, _] [_, _] from ⟨by rw [a0, encA_mk]; exact PubR.agg' (show PubRL _ _ [_, _, _] [_, _, _] from ⟨.pu (.base _), .pu (.base _), .nilS, trivial⟩), .pu (.base _), trivial⟩))
  have h2 : ¬ (o = 4 ∨ o = 6) := by
    rintro (rfl | rfl) <;> simp at h2
  rw [show spA (.mk o s l) cs = spL o l cs [] by rw [spA, if_neg h1, if_neg h2]]
  clear i1 i2 h1 h2
  refine goD ?_
  refine bldA pl158 zero158 ?_
  refine goD ?_
  refine keA [1, 4, 5, 6, 41, 42, 43] ?_
  refine AWp.weaken (Wk.nilC (H2 := cpH cs ++ [boxX o s l, ⟨158, 3, [.agg [.int 0, .int 0, .base (.slice none 0 0)]]⟩, askO o 0]) (E2 := [(1, .ptr 0 1 0 0), (4, .ptr 3 1 0 0), (6, .ptr 4 1 0 0), (41, .lst (l.map encX)), (42, .int l.length), (43, .int 0)]) 158 3 ?_ ?_) ?_
  · exact ⟨.one ⟨.own, trivial⟩, .pu (PuB_cpB _), .pu (PuB_box o s l), .one (show NilL _ [_, _, _] [_, _, _] from ⟨.pu (.base _), .pu (.base _), .pu (.base _), trivial⟩), .one (show NilL _ [_, _, _] [_, _, _] from ⟨.pu (.base _), .pu (.base _), .nil rfl, trivial⟩), trivial⟩
  · exact ⟨.ptr, .ptr, .ptr, .pu (Pu_mapX l), .pu (.base _), .pu (.base _), trivial⟩
  refine AWp.loopH (J := fun x : Nat × List Cx × List Ask => x.1 ≤ l.length ∧ spL o l cs [] = spL o (l.drop x.1) x.2.1 x.2.2 ∧ x.2.1.length + cnts (l.drop x.1) ≤ 699 ∧ x.2.2.length ≤ x.1) (fun x => [(43, .int x.1)])
    (fun x => cpH x.2.1 ++ [boxX o s l, ⟨158, 3, [.agg [.int 0, .int 0, .base (.slice none 0 0)]]⟩, askO o x.2.2.length, ⟨158, 3, x.2.2.map encA⟩]) (fun x => l.length - x.1) (0, cs, []) ⟨Nat.zero_le _, rfl, by rw [List.drop_zero]; simp only; omega, Nat.zero_le _⟩ .wk ?_
  rintro ⟨k, c1, acc⟩ ⟨hk, hg, hb1, hac⟩
  simp only at hk hg hb1 hac
  simp only [cpH, List.cons_append, List.nil_append]
  refine goD ?_
  refine ifA (fun hc => ?_) (fun hc => ?_)
  · simp at hc
    have hm : l[k] ∈ l := List.getElem_mem _
    rw [List.drop_eq_getElem_cons hc] at hg hb1
    rw [cnts] at hb1
    rw [spL] at hg
    have hx := ih _ hm c1 (by omega)
    have hln := spA_len l[k] c1
    have hlc := lenL_cnts l
    have hidx : (l.map encX)[k]? = some (encX l[k]) := by rw [List.getElem?_map, List.getElem?_eq_getElem hc]; rfl
    generalize hlk : l[k] = x at *
    generalize spA x c1 = q at *
    obtain ⟨⟨a1, b1⟩, c2⟩ := q
    simp only at hx hln hg
    obtain ⟨ox, sx, lx⟩ := x
    obtain ⟨oa, fa, la⟩ := a1
    rw [encX_mk] at hx hidx
    rw [encA_mk] at hx
    refine goD ?_
    refine ARun.q1 rfl rfl (ql_indexAddr_lst rfl rfl Try.underlying22 (by omega) (e := .agg [.int ox, str sx, .lst (lx.map encX)]) (by simpa using hidx) (by kernel_rfl)) ?_
    refine goD ?_
    refine ARun.p1 rfl rfl (pl_callN (d' := .tup [.agg [.int oa, .int fa, .lst (la.map encA)], .bool b1]) [0, 1] (cpH c2) hx (by decide) ⟨⟨_, rfl, cpS_mv (by decide) _⟩, ⟨_, rfl, .pu (PuB_cpB c1)⟩, trivial⟩
      ⟨cpS_mv (by simp [rb]) _, .pu (PuB_cpB c2), trivial⟩ rfl rfl rfl ⟨.pu (Pu_aggX _ _ _), .ptr (by decide), trivial⟩ (.pu (.tup fun c hc => by
        simp only [List.mem_cons, List.not_mem_nil, or_false] at hc
        rcases hc with rfl | rfl
        · exact Pu_aggA _ _ _
        · exact .base _))) ?_
    simp only [setL, List.set_cons_succ, List.set_cons_zero]
    refine goD ?_
    cases b1 with
    | false =>
      rw [if_neg (by simp)] at hg
      rw [hg]
      refine ift_ ?_
      refine goD ?_
      refine bldA pl158 zero158 ?_
      refine goD ?_
      exact RetH.of (vs := [.agg [.int 0, .int 0, .base (.slice none 0 0)], .bool false]) [0, 1] (by kernel_rfl) (by decide) (fun b hb => sel2 b hb) (cpSel c2 _)
        (PubR.tup' (show PubRL _ _ [_, _] [_, _] from ⟨by rw [a0, encA_mk]; exact PubR.agg' (show PubRL _ _ [_, _, _] [_, _, _] from ⟨.pu (.base _), .pu (.base _), .nilS, trivial⟩), .pu (.base _), trivial⟩))
    | true =>
      rw [if_pos rfl] at hg
      refine iff_ ?_
      refine goD ?_
      refine ARun.p1 rfl rfl (pl_append (b := 5) (tot := acc.length) (es := [.agg [.int oa, .int fa, .lst (la.map encA)]]) (by simp +decide only [go_sem] <;> rfl) (by simp +decide only [go_sem] <;> rfl) rfl (by simp) Try.underlying156 el158 rfl rfl (by simp) (fun e he => by rw [List.mem_singleton] at he; subst he; exact ⟨rfl, rfl⟩) (by simp; omega) (by simp; omega)) ?_
      rw [show acc.map encA ++ [.agg [.int oa, .int fa, .lst (la.map encA)]] = (acc ++ [Ask.mk oa fa la]).map encA by rw [List.map_append, List.map_cons, List.map_nil, encA_mk]]
      refine goD ?_
      rw [wrap_succ (by omega)]
      refine ⟨(k + 1, c2, acc ++ [.mk oa fa la]), ⟨hc, hg, by simp only; omega, by simp; omega⟩, by simp only; omega, ?_⟩
      simp only [len_snocA]
      exact Wk.trimM 6 (by decide) rfl (by simp +decide only [go_sem, WkP]; (repeat' apply And.intro); all_goals first | trivial | exact .pu (.base _) | exact .ptr (by decide) | exact .own (by decide) | exact .pu (Pu_mapX l) | exact .bad _) (cpPub (by omega) c2 (pubAsk o s l _ _))
  simp at hc
  obtain rfl : k = l.length := by omega
  rw [List.drop_length, spL] at hg
  rw [hg]
  refine goD ?_
  exact RetH.of (vs := [.agg [.int o, .int 0, .own 5 acc.length 0 acc.length], .bool true]) [0, 1] (by kernel_rfl) (by decide) (fun b hb => sel2 b hb) (cpSel c1 _)
    (PubR.tup' (show PubRL _ _ [_, _] [_, _] from ⟨by rw [encA_mk]; exact PubR.agg' (show PubRL _ _ [_, _, _] [_, _, _] from ⟨.pu (.base _), .pu (.base _), .ownM (f := encA) (l := acc) (by decide) rfl rfl (fun x _ => Pu_Ac x), trivial⟩), .pu (.base _), trivial⟩))
end Go.Ab
set_option maxHeartbeats 4000000
namespace Go.Ab
open Go Go.Ab Go.Proofs Go.Ab.Ty

mutual
def hA (l : List Bool) : Ask → Bool
  | .mk o f s => if o = 5 then hAny l s else if o = 7 then hAll l s else if o = 8 then !(hFst l s) else l.getD f.toNat false
def hAny (l : List Bool) : List Ask → Bool
  | [] => false
  | x :: s => hA l x || hAny l s
def hAll (l : List Bool) : List Ask → Bool
  | [] => true
  | x :: s => hA l x && hAll l s
def hFst (l : List Bool) : List Ask → Bool
  | [] => false
  | x :: _ => hA l x
end
theorem hAny_iff (l : List Bool) : ∀ s, hAny l s = true ↔ ∃ x ∈ s, hA l x = true
  | [] => by simp [hAny]
  | x :: s => by rw [hAny, Bool.or_eq_true, hAny_iff l s]; simp
theorem hAll_iff (l : List Bool) : ∀ s, hAll l s = true ↔ ∀ x ∈ s, hA l x = true
  | [] => by simp [hAll]
  | x :: s => by rw [hAll, Bool.and_eq_true, hAll_iff l s]; simp
inductive Ask.fit (n : Nat) : Ask → Prop
  | mk (o f : Int) (s : List Ask) (hl : o ≠ 5 → o ≠ 7 → o ≠ 8 → 0 ≤ f ∧ f < n) (h8 : o = 8 → s ≠ []) (hn : s.length ≤ 1000000000) (hs : ∀ x ∈ s, Ask.fit n x) : Ask.fit n (.mk o f s)
abbrev lB (l : List Bool) : AV := .lst (l.map AV.bool)
open Classical in
theorem idxF_ok {fid : FuncId} {caps : List AV} {p : Ask → Prop} {s : List Ask} (hn : s.length ≤ 1000000000) (hc : ∀ c ∈ caps, Pu c) (h : ∀ x ∈ s, Fn Try.prog fid (encA x :: caps) (.bool (decide (p x)))) :
    Fn Try.prog 159 [.lst (s.map encA), .clo fid caps] (.int (firstI p s 0)) := by
  refine Fn.intro' [(0, .lst (s.map encA)), (1, .clo fid caps)] 2 19 Try.func159 (by kernel_rfl) rfl rfl rfl rfl rfl ?_
  refine goB ?_
  refine AWp.loopP (J := fun k : Nat => k ≤ s.length ∧ firstI p s 0 = firstI p (s.drop k) k) (fun k => [(8, .int k)]) (fun k => s.length - k) 0 ⟨Nat.zero_le _, rfl⟩ .wk ?_
  rintro k ⟨hk, he⟩
  refine goB ?_
  refine ifA (fun hd => ?_) (fun hd => ?_)
  · simp at hd
    refine goB ?_
    have hm : s[k] ∈ s := List.getElem_mem _
    have ih1 := h _ hm
    rw [firstI_drop hd] at he
    rcases hx : s[k] with ⟨o1, f1, l1⟩
    rw [hx] at ih1 he
    rw [encA_mk] at ih1
    refine ARun.q1 rfl rfl (ql_indexAddr_lst rfl rfl Try.underlying156 (by omega) (e := .agg [.int o1, .int f1, .lst (l1.map encA)]) (by simp [hd, hx, encA_mk]) (by kernel_rfl)) ?_
    refine goB ?_
    refine ARun.q1 rfl rfl (ql_callC ih1 rfl (by simp +decide only [go_sem] <;> rfl) rfl (by simpa using hc)) ?_
    refine goB ?_
    refine ifA (fun hq => ?_) (fun hq => ?_)
    · simp at hq
      rw [if_pos hq] at he
      refine goB ?_
      exact Ret.data rfl (by simp [packA, lk, he]) (.base _)
    · simp at hq
      rw [if_neg hq] at he
      refine goB ?_
      rw [wrap_succ (by omega)]
      exact ⟨k + 1, ⟨by omega, he⟩, by omega, .wk⟩
  simp at hd
  refine goB ?_
  exact Ret.data rfl (by rw [he, List.drop_eq_nil_of_le (by omega)]; rfl) (.base _)
open Classical in
theorem conF_ok {fid : FuncId} {caps : List AV} {p : Ask → Prop} {s : List Ask} (hn : s.length ≤ 1000000000) (hc : ∀ c ∈ caps, Pu c) (h : ∀ x ∈ s, Fn Try.prog fid (encA x :: caps) (.bool (decide (p x)))) :
    Fn Try.prog 153 [.lst (s.map encA), .clo fid caps] (.bool (decide (∃ x ∈ s, p x))) := by
  have i1 := idxF_ok hn hc h
  refine Fn.intro' [(0, .lst (s.map encA)), (1, .clo fid caps)] 2 9 Try.func153 (by kernel_rfl) rfl rfl rfl rfl rfl ?_
  refine goB ?_
  refine ARun.q1 rfl rfl (ql_callC i1 rfl (by simp +decide only [go_sem] <;> rfl) (by simp +decide only [go_sem] <;> rfl) (by simpa using Pu.clo hc)) ?_
  refine goB ?_
  exact Ret.bool rfl (by rw [decide_eq_true_iff, decide_eq_true_iff, ← firstI_ge p s 0])
@[simp] theorem Pu_lB (l : List Bool) : Pu (lB l) := .lst fun e he c hc => by
  obtain ⟨x, _, rfl⟩ := List.mem_map.1 he
  simp only [AV.cells, List.mem_singleton] at hc; subst hc; exact .base _
theorem Pu_cap (l : List Bool) : ∀ c ∈ [AV.iptr (lB l) 0], Pu c := fun c hc => by
  rw [List.mem_singleton] at hc; subst hc
  exact .iptr fun x hx => by
    rw [show (lB l).cells = [lB l] from rfl, List.mem_singleton] at hx; subst hx; exact Pu_lB l
theorem fit_sub {n : Nat} {o f : Int} {s : List Ask} (h : Ask.fit n (.mk o f s)) : (o ≠ 5 → o ≠ 7 → o ≠ 8 → 0 ≤ f ∧ f < n) ∧ (o = 8 → s ≠ []) ∧ s.length ≤ 1000000000 ∧ ∀ x ∈ s, Ask.fit n x := by
  cases h with | mk _ _ _ a b c d => exact ⟨a, b, c, d⟩
theorem holds_ok (l : List Bool) (a : Ask) : a.fit l.length → Fn Try.prog 137 [encA a, lB l] (.bool (hA l a)) := by
  induction a using Ask.ind with
  | h o f s ih =>
  intro hf
  obtain ⟨hl, h8, hn, hs⟩ := fit_sub hf
  replace ih := fun x hx => ih x hx (hs x hx)
  have h1 : ∀ x ∈ s, Fn Try.prog 151 (encA x :: [.iptr (lB l) 0]) (.bool (hA l x)) := fun x hx => by
    have i1 := ih x hx
    obtain ⟨o1, f1, l1⟩ := x
    rw [encA_mk] at i1 ⊢
    refine Fn.intro' [(0, .agg [.int o1, .int f1, .lst (l1.map encA)]), (1, .iptr (lB l) 0)] 2 7 Try.func151 (by kernel_rfl) rfl rfl rfl rfl rfl ?_
    refine goB ?_
    refine callA (i1) ?_
    refine goB ?_
    exact Ret.bool rfl (by simp)
  have h2 : ∀ x ∈ s, Fn Try.prog 152 (encA x :: [.iptr (lB l) 0]) (.bool (!(hA l x))) := fun x hx => by
    have i1 := ih x hx
    obtain ⟨o1, f1, l1⟩ := x
    rw [encA_mk] at i1 ⊢
    refine Fn.intro' [(0, .agg [.int o1, .int f1, .lst (l1.map encA)]), (1, .iptr (lB l) 0)] 2 8 Try.func152 (by kernel_rfl) rfl rfl rfl rfl rfl ?_
    refine goB ?_
    refine callA (i1) ?_
    refine goB ?_
    exact Ret.bool rfl (by simp)
  have i5 := conF_ok (p := fun x => hA l x = true) hn (caps := [.iptr (lB l) 0]) (Pu_cap l) (fun x hx => by simpa using h1 x hx)
  have i7 := conF_ok (p := fun x => (!(hA l x)) = true) hn (caps := [.iptr (lB l) 0]) (Pu_cap l) (fun x hx => by simpa using h2 x hx)
  rw [encA_mk]
  refine Fn.intro' [(0, .agg [.int o, .int f, .lst (s.map encA)]), (1, lB l)] 2 37 Try.func137 (by kernel_rfl) rfl rfl rfl rfl rfl ?_
  refine goB ?_
  refine ifA (fun h5 => ?_) (fun h5 => ?_)
  · simp at h5; subst h5
    refine goB ?_
    refine ARun.q1 rfl rfl (ql_callM (args := [.lst (s.map encA), .clo 151 [.iptr (lB l) 0]]) rfl (by simp +decide only [go_sem] <;> rfl) (by simp +decide only [go_sem, List.map]; exact ⟨.pu (Pu_mapA s), .clo' ⟨.iptr rfl rfl rfl ⟨.pu (Pu_lB l), trivial⟩, trivial⟩, trivial⟩) (.base _) i5) ?_
    refine goB ?_
    exact Ret.bool rfl (by rw [hA, if_pos rfl, hAny_iff]; simp)
  simp at h5
  refine goB ?_
  refine ifA (fun h7 => ?_) (fun h7 => ?_)
  · simp at h7; subst h7
    refine goB ?_
    refine ARun.q1 rfl rfl (ql_callM (args := [.lst (s.map encA), .clo 152 [.iptr (lB l) 0]]) rfl (by simp +decide only [go_sem] <;> rfl) (by simp +decide only [go_sem, List.map]; exact ⟨.pu (Pu_mapA s), .clo' ⟨.iptr rfl rfl rfl ⟨.pu (Pu_lB l), trivial⟩, trivial⟩, trivial⟩) (.base _) i7) ?_
    refine goB ?_
    exact Ret.bool rfl (by rw [hA, if_neg h5, if_pos rfl, hAll_iff]; simp)
  simp at h7
  refine goB ?_
  refine ifA (fun h9 => ?_) (fun h9 => ?_)
  · simp at h9; subst h9
    obtain ⟨x, s2, rfl⟩ := List.exists_cons_of_ne_nil (h8 rfl)
    have i2 := h2 x (by simp)
    obtain ⟨o1, f1, l1⟩ := x
    rw [encA_mk] at i2
    refine goB ?_
    refine ARun.q1 rfl rfl (ql_indexAddr_lst rfl rfl Try.underlying156 (by omega) (e := .agg [.int o1, .int f1, .lst (l1.map encA)]) (by simp [encA_mk]) (by kernel_rfl)) ?_
    refine goB ?_
    refine ARun.q1 rfl rfl (ql_callM (args := [.agg [.int o1, .int f1, .lst (l1.map encA)], .iptr (lB l) 0]) rfl (by simp +decide only [go_sem] <;> rfl) (by simp +decide only [go_sem, List.map]; exact ⟨.pu (Pu_aggA _ _ _), .iptr rfl rfl rfl ⟨.pu (Pu_lB l), trivial⟩, trivial⟩) (.base _) i2) ?_
    refine goB ?_
    exact Ret.bool rfl (by rw [show hA l (Ask.mk 8 f (Ask.mk o1 f1 l1 :: s2)) = !(hA l (Ask.mk o1 f1 l1)) from by conv => lhs; rw [hA, if_neg h5, if_neg h7, if_pos rfl, hFst]])
  simp at h9
  have hl := hl h5 h7 h9
  refine goB ?_
  exact Ret.bool rfl (by rw [hA, if_neg h5, if_neg h7, if_neg h9]; simp [nth, List.getD_eq_getElem?_getD])
end Go.Ab
