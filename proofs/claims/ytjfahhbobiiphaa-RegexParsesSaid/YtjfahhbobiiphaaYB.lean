/- Part of the proof. -/
import Derived.Test.YtjfahhbobiiphaaYA
import Derived.Test.YtjfahhbobiiphaaAbL
set_option linter.unusedSimpArgs false
set_option linter.unusedVariables false
-- fnh
set_option maxHeartbeats 4000000
namespace Go.Ab
open Go Go.Ab Go.Proofs Go.Ab.Ty

/-! ### expr and piece -/
def PieceC (n : Nat) : Prop := ∀ l f, l.length ≤ 1000000 → FnH Try.prog 107 [.ptr 0 1 0 0, .int n] [rdB l f] (encX (pcF n l f).1) [rdB (pcF n l f).2.1 (pcF n l f).2.2]
theorem opF_cases (c : UInt8) : opF c = 4 ∨ opF c = 5 ∨ opF c = 7 := by unfold opF; split; simp; split <;> simp
theorem PuB_X1' (o : Int) (s : ByteArray) (l : List Rx) : ∀ e ∈ (⟨24, 3, [.agg [.int o, str s, .lst (l.map encX)]]⟩ : ABlk).es, ∀ c ∈ e.cells, Pu c := PuBlX o s l _ (List.mem_singleton.2 rfl)
theorem expr_of (n : Nat) (hP : PieceC n) (l : List UInt8) (f : Bool) (hl : l.length ≤ 1000000) : FnH Try.prog 79 [.ptr 0 1 0 0, .int n] [rdB l f] (encX (exF (pcF n) l f).1) [rdB (exF (pcF n) l f).2.1 (exF (pcF n) l f).2.2] := by
  have hG := pcF_good n
  have i1 := hP l f hl
  have hlen := hG.len l f
  have hE : exF (pcF n) l f = (if (loopF (pcF n) (opF (nx (pcF n l f).2.1 (pcF n l f).2.2)) ((pcF n l f).2.1.length + 2) [(pcF n l f).1] (pcF n l f).2.1 (pcF n l f).2.2).1.length = 1 then (pcF n l f).1 else .mk (opF (nx (pcF n l f).2.1 (pcF n l f).2.2)) ByteArray.empty (loopF (pcF n) (opF (nx (pcF n l f).2.1 (pcF n l f).2.2)) ((pcF n l f).2.1.length + 2) [(pcF n l f).1] (pcF n l f).2.1 (pcF n l f).2.2).1, (loopF (pcF n) (opF (nx (pcF n l f).2.1 (pcF n l f).2.2)) ((pcF n l f).2.1.length + 2) [(pcF n l f).1] (pcF n l f).2.1 (pcF n l f).2.2).2) := rfl
  rw [hE]
  clear hE
  rcases hp : pcF n l f with ⟨⟨o1, s1, l1⟩, l2, f2⟩
  rw [hp] at i1 hlen
  simp only at i1 hlen ⊢
  rw [encX_mk] at i1
  obtain ⟨op, hop⟩ : ∃ op, op = opF (nx l2 f2) := ⟨_, rfl⟩
  have hcs := opF_cases (nx l2 f2)
  rw [← hop] at hcs
  obtain ⟨R, hR⟩ : ∃ R, R = loopF (pcF n) (opF (nx l2 f2)) (l2.length + 2) [.mk o1 s1 l1] l2 f2 := ⟨_, rfl⟩
  rw [← hR]
  refine FnH.intro' [(0, .ptr 0 1 0 0), (1, .int n)] 2 83 1 Try.func79 (by kernel_rfl) rfl rfl rfl rfl rfl rfl ?_
  refine goD ?_
  refine ARun.p1 rfl rfl (pl_callH (e := [0]) (d' := .agg [.int o1, str s1, .lst (l1.map encX)]) i1 (CallE.put1 (b := 0) rfl (PuBl_rd _ _) (PuBl_rd _ _)) rfl (by simp +decide only [go_sem] <;> rfl) (by simp +decide only [go_sem, List.map]; exact ⟨.ptr rfl, .pu (.base _), trivial⟩) (.pu (Pu_aggX _ _ _))) ?_
  refine goD ?_
  refine ARun.q1 rfl rfl (ql_next (b := 0) rfl rfl rfl (by simp +decide only [go_sem] <;> rfl) (by rfl)) ?_
  refine goD ?_
  refine keA [0, 1, 4, 5, 6, 7, 16] ?_
  refine AWp.joinP [(6, .int op), (16, .bad), (17, .bad), (18, .bad)] ?_ ?_
  · rw [hop]
    unfold opF
    generalize nx l2 f2 = c at *
    refine ifA (fun h1 => ?_) (fun h1 => ?_)
    · have h1 : c = 124 := UInt8.toNat_inj.1 (by show c.toNat = 124; simp at h1; omega)
      rw [if_pos h1]
      refine goD ?_
      exact .wk
    · have h1 : c ≠ 124 := fun e => by rw [e] at h1; simp at h1
      rw [if_neg h1]
      refine goD ?_
      refine ifA (fun h2 => ?_) (fun h2 => ?_)
      · have h2 : c = 38 := UInt8.toNat_inj.1 (by show c.toNat = 38; simp at h2; omega)
        rw [if_pos h2]
        refine goD ?_
        exact .wk
      · have h2 : c ≠ 38 := fun e => by rw [e] at h2; simp at h2
        rw [if_neg h2]
        refine goD ?_
        exact .wk
  rw [← hop] at hR ⊢
  refine goC ?_
  refine ARun.p1 rfl rfl (pl_buildSlice (es := [encX (.mk o1 s1 l1)]) (by decide) Try.underlying22 sz24 (by kernel_rfl) (by decide) (by simp +decide only [go_sem] <;> rfl) (by simp +decide only [List.map, go_sem, encX_mk]) rfl) ?_
  refine goC ?_
  refine keA [0, 1, 4, 5, 6, 8] ?_
  refine AWp.loopH (J := fun y : Nat × List Rx × List UInt8 × Bool => loopF (pcF n) op y.1 y.2.1 y.2.2.1 y.2.2.2 = R ∧ muS y.2.2.1 y.2.2.2 < y.1 ∧ y.2.1.length + y.1 ≤ l.length + 3 ∧ y.2.2.1.length ≤ l.length) (fun y => [(8, .own 3 y.2.1.length 0 y.2.1.length)]) (fun y => [rdB y.2.2.1 y.2.2.2, zX, ⟨24, 3, [.agg [.int o1, str s1, .lst (l1.map encX)]]⟩, xbl y.2.1]) (fun y => y.1) (l2.length + 2, [.mk o1 s1 l1], l2, f2) ⟨hR.symm, by unfold muS; simp only; split <;> omega, by simp only [List.length_cons, List.length_nil]; omega, hlen⟩ .wk ?_
  rintro ⟨m, acc, l3, f3⟩ ⟨h1, h2, h3, h4⟩
  simp only at h1 h2 h3 h4 ⊢
  obtain ⟨m, rfl⟩ : ∃ k, m = k + 1 := ⟨m - 1, by omega⟩
  rw [loopF] at h1
  cases f3 with
  | true =>
    rw [if_neg (by simp [goes])] at h1
    subst h1
    simp only
    refine goD ?_
    refine gxA (chr 0) ?_
    refine goD ?_
    refine gxA (chr 0) ?_
    refine goD ?_
    refine iff_ ?_
    refine goC ?_
    refine ifA (fun hL => ?_) (fun hL => ?_)
    · have hL : acc.length = 1 := by have := of_decide_eq_true hL; omega
      rw [if_pos hL, encX_mk]
      refine goC ?_
      exact RetH.of (vs := [.agg [.int o1, str s1, .lst (l1.map encX)]]) [0] (by kernel_rfl) (by decide) (fun b hb => sel1 b hb) ⟨⟨_, rfl, .pu (PuB_rd _ _)⟩, trivial⟩ (.pu (Pu_aggX _ _ _))
    · have hL : ¬ acc.length = 1 := fun e => (of_decide_eq_false hL) (by omega)
      rw [if_neg hL, encX_mk]
      refine goC ?_
      refine bldA pl24 zero24 ?_
      refine goC ?_
      exact RetH.of (vs := [.agg [.int op, str ByteArray.empty, .own 3 acc.length 0 acc.length]]) [0] (by kernel_rfl) (by decide) (fun b hb => sel1 b hb) ⟨⟨_, rfl, .pu (PuB_rd _ _)⟩, trivial⟩ (PubR.agg' (show PubRL _ _ [_, _, _] [_, _, _] from ⟨.pu (.base _), .pu (.base _), .ownM (f := encX) (l := acc) (by decide) rfl rfl (fun x _ c hc => Pu_Xc x c hc), trivial⟩))
  | false =>
    have hmu := loop_mu hG op l3 false
    have hbl := badF_len op l3 false
    refine goD ?_
    refine gqA (h := fun hg => ql_next (b := 0) (l := l3) (f := false) rfl rfl rfl (by simp +decide only [go_sem] <;> rfl) (by rfl)) (hr := ?_)
    refine goD ?_
    refine gqA (h := fun hg => ql_next (b := 0) (l := l3) (f := false) rfl rfl rfl (by simp +decide only [go_sem] <;> rfl) (by rfl)) (hr := ?_)
    refine goD ?_
    refine ifA (fun hgo => ?_) (fun hgo => ?_)
    · have hgo : goes l3 false = true := by
        simp at hgo
        unfold goes
        simp
        exact ⟨fun e => hgo.1 (by rw [e]; rfl), fun e => hgo.2 (by rw [e]; rfl)⟩
      rw [if_pos hgo] at h1
      have hmu := hmu hgo
      have i2 := hP (badF op l3 false).2 (badF op l3 false).1 (by omega)
      rw [Bool.false_or] at h1 hmu
      have hl4 := hG.len (badF op l3 false).2 (badF op l3 false).1
      obtain ⟨B, hB⟩ : ∃ B, B = badF op l3 false := ⟨_, rfl⟩
      rw [← hB] at h1 hmu i2 hl4 hbl
      have hnq := u8_eq (nx l3 false)
      refine keA [0, 1, 4, 5, 6, 8] ?_
      refine AWp.skip ?_
      refine thenQ_n ?_
      refine AWp.block ?_
      refine AWp.seq ?_
      refine AWp.joinH [] [rdB B.2 B.1, zX, ⟨24, 3, [.agg [.int o1, str s1, .lst (l1.map encX)]]⟩, xbl acc] ?_ ?_
      · rcases hcs with h5 | h5 | h5
        · have hB : B = (decide (nx l3 false = 124 ∨ nx l3 false = 38), l3) := by rw [hB, h5]; rfl
          rw [hB, h5]
          refine goD ?_
          refine gxA (.bool true) ?_
          refine goD ?_
          refine gxA (.bool true) ?_
          refine goD ?_
          refine gqA (h := fun hg => ql_next (b := 0) (l := l3) (f := false) rfl rfl rfl (by simp +decide only [go_sem] <;> rfl) (by rfl)) (hr := ?_)
          refine goD ?_
          refine gqA (h := fun hg => ql_next (b := 0) (l := l3) (f := false) rfl rfl rfl (by simp +decide only [go_sem] <;> rfl) (by rfl)) (hr := ?_)
          refine goD ?_
          refine keA [0, 1, 4, 5, 6, 8, 65] ?_
          have hq : ∀ a : Nat, (nx l3 false = UInt8.ofNat a) → a < 256 → ((nx l3 false).toNat : Int) = a := fun a h ha => by rw [h, UInt8.toNat_ofNat']; omega
          refine ifA (fun hc => ?_) (fun hc => ?_)
          · have hd : decide (nx l3 false = 124 ∨ nx l3 false = 38) = true := by
              rw [decide_eq_true_iff]
              simp at hc
              rcases hc with h | h
              · exact .inl (UInt8.toNat_inj.1 (by show _ = 124; omega))
              · exact .inr (UInt8.toNat_inj.1 (by show _ = 38; omega))
            rw [hd]
            refine goD ?_
            exact Wk.trimM 4 (by decide) rfl (by simp +decide only [go_sem, WkP]; (repeat' apply And.intro) <;> first | exact .ptr (by decide) | exact .own (by decide) | exact .pu (.base _)) (pubB (PuBl.cons (PuB_rd _ _) (PuBl.cons (PuB_zX 0 _) (PuBl.cons (PuB_X1' o1 s1 l1) (PuBl.cons (PuB_x acc) .nil)))))
          · have hd : decide (nx l3 false = 124 ∨ nx l3 false = 38) = false := by
              rw [decide_eq_false_iff_not]
              rintro (h | h)
              · have := hq 124 h (by omega); simp at hc; omega
              · have := hq 38 h (by omega); simp at hc; omega
            rw [hd]
            refine goD ?_
            exact Wk.trimM 4 (by decide) rfl (by simp +decide only [go_sem, WkP]; (repeat' apply And.intro) <;> first | exact .ptr (by decide) | exact .own (by decide) | exact .pu (.base _)) (pubB (PuBl.cons (PuB_rd _ _) (PuBl.cons (PuB_zX 0 _) (PuBl.cons (PuB_X1' o1 s1 l1) (PuBl.cons (PuB_x acc) .nil)))))
        · have hB : B = (!(tk 124 l3 false).1, (tk 124 l3 false).2) := by rw [hB, h5]; rfl
          rw [hB, h5]
          refine goD ?_
          refine ARun.gpl rfl rfl (by simp +decide only [go_sem] <;> rfl) (by rfl) (pl_callH (e := [0]) (d' := .bool (tk 124 l3 false).1) (take_ok l3 false 124 (by decide)) (CallE.put1 (b := 0) rfl (PuBl_rd _ _) (PuBl_rd _ _)) rfl (by simp +decide only [go_sem] <;> rfl) (by simp +decide only [go_sem, List.map]; exact ⟨.ptr rfl, .pu (.base _), trivial⟩) (.pu (.base _))) ?_
          generalize tk 124 l3 false = T at *
          obtain ⟨t1, t2⟩ := T
          simp only
          refine goD ?_
          refine gxA (.bool true) ?_
          refine goD ?_
          refine gxA (chr 0) ?_
          refine goD ?_
          refine gxA (chr 0) ?_
          refine goD ?_
          refine keA [0, 1, 4, 5, 6, 8, 65] ?_
          cases t1 with
          | true =>
            refine iff_ ?_
            refine goD ?_
            exact Wk.trimM 4 (by decide) rfl (by simp +decide only [go_sem, WkP]; (repeat' apply And.intro) <;> first | exact .ptr (by decide) | exact .own (by decide) | exact .pu (.base _)) (pubB (PuBl.cons (PuB_rd _ _) (PuBl.cons (PuB_zX 0 _) (PuBl.cons (PuB_X1' o1 s1 l1) (PuBl.cons (PuB_x acc) .nil)))))
          | false =>
            refine ift_ ?_
            refine goD ?_
            exact Wk.trimM 4 (by decide) rfl (by simp +decide only [go_sem, WkP]; (repeat' apply And.intro) <;> first | exact .ptr (by decide) | exact .own (by decide) | exact .pu (.base _)) (pubB (PuBl.cons (PuB_rd _ _) (PuBl.cons (PuB_zX 0 _) (PuBl.cons (PuB_X1' o1 s1 l1) (PuBl.cons (PuB_x acc) .nil)))))
        · have hB : B = (!(tk 38 l3 false).1, (tk 38 l3 false).2) := by rw [hB, h5]; rfl
          rw [hB, h5]
          refine goD ?_
          refine gxA (.bool true) ?_
          refine goD ?_
          refine ARun.gpl rfl rfl (by simp +decide only [go_sem] <;> rfl) (by rfl) (pl_callH (e := [0]) (d' := .bool (tk 38 l3 false).1) (take_ok l3 false 38 (by decide)) (CallE.put1 (b := 0) rfl (PuBl_rd _ _) (PuBl_rd _ _)) rfl (by simp +decide only [go_sem] <;> rfl) (by simp +decide only [go_sem, List.map]; exact ⟨.ptr rfl, .pu (.base _), trivial⟩) (.pu (.base _))) ?_
          generalize tk 38 l3 false = T at *
          obtain ⟨t1, t2⟩ := T
          simp only
          refine goD ?_
          refine gxA (chr 0) ?_
          refine goD ?_
          refine gxA (chr 0) ?_
          refine goD ?_
          refine keA [0, 1, 4, 5, 6, 8, 65] ?_
          cases t1 with
          | true =>
            refine iff_ ?_
            refine goD ?_
            exact Wk.trimM 4 (by decide) rfl (by simp +decide only [go_sem, WkP]; (repeat' apply And.intro) <;> first | exact .ptr (by decide) | exact .own (by decide) | exact .pu (.base _)) (pubB (PuBl.cons (PuB_rd _ _) (PuBl.cons (PuB_zX 0 _) (PuBl.cons (PuB_X1' o1 s1 l1) (PuBl.cons (PuB_x acc) .nil)))))
          | false =>
            refine ift_ ?_
            refine goD ?_
            exact Wk.trimM 4 (by decide) rfl (by simp +decide only [go_sem, WkP]; (repeat' apply And.intro) <;> first | exact .ptr (by decide) | exact .own (by decide) | exact .pu (.base _)) (pubB (PuBl.cons (PuB_rd _ _) (PuBl.cons (PuB_zX 0 _) (PuBl.cons (PuB_X1' o1 s1 l1) (PuBl.cons (PuB_x acc) .nil)))))
      rcases hy : pcF n B.2 B.1 with ⟨⟨o2, s2, l5⟩, l4, f4⟩
      rw [hy] at h1 hmu i2 hl4
      simp only at h1 hmu i2 hl4
      rw [encX_mk] at i2
      refine goC ?_
      refine ARun.p1 rfl rfl (pl_callH (e := [0]) (d' := .agg [.int o2, str s2, .lst (l5.map encX)]) i2 (CallE.put1 (b := 0) rfl (PuBl_rd _ _) (PuBl_rd _ _)) rfl (by simp +decide only [go_sem] <;> rfl) (by simp +decide only [go_sem, List.map]; exact ⟨.ptr rfl, .pu (.base _), trivial⟩) (.pu (Pu_aggX _ _ _))) ?_
      refine goC ?_
      refine bslA Try.underlying22 sz24 ?_
      refine ARun.p1 rfl rfl (pl_appX (b := 3) (A := acc) (B := [.mk o2 s2 l5]) (by simp +decide only [go_sem] <;> rfl) (by simp +decide only [go_sem, List.map, encX_mk] <;> rfl) (by rfl) (by simp; omega)) ?_
      refine goC ?_
      refine ⟨(m, acc ++ [.mk o2 s2 l5], l4, f4), ⟨h1, by simp only; omega, by simp only [List.length_append, List.length_cons, List.length_nil]; omega, by simp only; omega⟩, by simp only; omega, ?_⟩
      exact Wk.trimM 4 (by decide) (by simp) (by simp +decide only [go_sem, WkP, List.length_append, List.length_cons, List.length_nil]; (repeat' apply And.intro) <;> first | exact .ptr (by decide) | exact .own (by decide) | exact .pu (.base _)) (pubB (PuBl.cons (PuB_rd _ _) (PuBl.cons (PuB_zX 0 _) (PuBl.cons (PuB_X1' o1 s1 l1) (PuBl.cons (PuB_x (acc ++ [.mk o2 s2 l5])) .nil)))))
    · have hgo : ¬ goes l3 false = true := fun e => by
        unfold goes at e
        simp at e hgo
        have h5 : ¬ (nx l3 false).toNat = 0 := fun h => e.1 (UInt8.toNat_inj.1 (by show _ = 0; omega))
        have h6 := hgo h5
        exact e.2 (UInt8.toNat_inj.1 (by show _ = 41; omega))
      rw [if_neg hgo] at h1
      subst h1
      simp only
      refine goC ?_
      refine ifA (fun hL => ?_) (fun hL => ?_)
      · have hL : acc.length = 1 := by have := of_decide_eq_true hL; omega
        rw [if_pos hL, encX_mk]
        refine goC ?_
        exact RetH.of (vs := [.agg [.int o1, str s1, .lst (l1.map encX)]]) [0] (by kernel_rfl) (by decide) (fun b hb => sel1 b hb) ⟨⟨_, rfl, .pu (PuB_rd _ _)⟩, trivial⟩ (.pu (Pu_aggX _ _ _))
      · have hL : ¬ acc.length = 1 := fun e => (of_decide_eq_false hL) (by omega)
        rw [if_neg hL, encX_mk]
        refine goC ?_
        refine bldA pl24 zero24 ?_
        refine goC ?_
        exact RetH.of (vs := [.agg [.int op, str ByteArray.empty, .own 3 acc.length 0 acc.length]]) [0] (by kernel_rfl) (by decide) (fun b hb => sel1 b hb) ⟨⟨_, rfl, .pu (PuB_rd _ _)⟩, trivial⟩ (PubR.agg' (show PubRL _ _ [_, _, _] [_, _, _] from ⟨.pu (.base _), .pu (.base _), .ownM (f := encX) (l := acc) (by decide) rfl rfl (fun x _ c hc => Pu_Xc x c hc), trivial⟩))
end Go.Ab
-- fnh
set_option maxHeartbeats 4000000
namespace Go.Ab
open Go Go.Ab Go.Proofs Go.Ab.Ty

/-! ### piece -/
theorem u8_oneL (c : UInt8) : (⟨([((c.toNat : Nat) : Int)].map fun n => UInt8.ofNat n.toNat).toArray⟩ : ByteArray) = bsL [c] := by simp
theorem Pu_u8o (c : UInt8) : Pu (.lst [chr c]) := .lst fun e he d hd => by
  rw [List.mem_singleton] at he; subst he; simp only [AV.cells, List.mem_singleton] at hd; subst hd; exact .base _
theorem encX_rx0 : encX rx0 = .agg [.int 0, str ByteArray.empty, .lst []] := rfl
theorem sel3 (b : Nat) (h : b < 1) : ([0, 1, 2] : List Nat)[b]? = some b := by
  have : b = 0 := by omega
  subst this; rfl
theorem piece_ok : ∀ n : Nat, n ≤ 1000 → PieceC n
  | 0, _ => fun l f hl => by
    rw [pcF, encX_rx0]
    refine FnH.intro' [(0, .ptr 0 1 0 0), (1, .int 0)] 2 74 1 Try.func107 (by kernel_rfl) rfl rfl rfl rfl rfl rfl ?_
    refine goD ?_
    refine ift_ ?_
    refine goD ?_
    refine ift_ ?_
    refine goD ?_
    refine bldA pl24 zero24 ?_
    refine goD ?_
    exact RetH.of (vs := [.agg [.int 0, str ByteArray.empty, .base (.slice none 0 0)]]) [0] (by kernel_rfl) (by decide) (fun b hb => sel1 b hb) ⟨⟨_, rfl, .pu (PuB_rd _ _)⟩, trivial⟩ (PubR.agg' (show PubRL _ _ [_, _, _] [_, _, _] from ⟨.pu (.base _), .pu (.base _), .nilS, trivial⟩))
  | n + 1, hn => fun l f hl => by
    have hP := piece_ok n (by omega)
    have hE := expr_of n hP
    have hA := (pcF_good n).ex.atom
    have hw : IntKind.i64.wrap (((n + 1 : Nat) : Int) - 1) = (n : Int) := by rw [wrap_id (by omega) (by omega)]; omega
    rw [pcF]
    cases f with
    | true =>
      rw [if_pos rfl, encX_rx0]
      refine FnH.intro' [(0, .ptr 0 1 0 0), (1, .int (n + 1 : Nat))] 2 74 1 Try.func107 (by kernel_rfl) rfl rfl rfl rfl rfl rfl ?_
      refine goD ?_
      refine iffd_ rfl (by omega) ?_
      refine goD ?_
      refine ift_ ?_
      refine goD ?_
      refine bldA pl24 zero24 ?_
      refine goD ?_
      exact RetH.of (vs := [.agg [.int 0, str ByteArray.empty, .base (.slice none 0 0)]]) [0] (by kernel_rfl) (by decide) (fun b hb => sel1 b hb) ⟨⟨_, rfl, .pu (PuB_rd _ _)⟩, trivial⟩ (PubR.agg' (show PubRL _ _ [_, _, _] [_, _, _] from ⟨.pu (.base _), .pu (.base _), .nilS, trivial⟩))
    | false =>
      rw [if_neg (by simp)]
      have i1 := take_ok l false 33 (by decide)
      have htl := (tk_len 33 l false).1
      have htf := tk_f (c := 33) (l := l) (f := false)
      refine FnH.intro' [(0, .ptr 0 1 0 0), (1, .int (n + 1 : Nat))] 2 74 1 Try.func107 (by kernel_rfl) rfl rfl rfl rfl rfl rfl ?_
      refine goD ?_
      refine iffd_ rfl (by omega) ?_
      refine goD ?_
      refine iff_ ?_
      refine goD ?_
      refine ARun.p1 rfl rfl (pl_callH (e := [0]) (d' := .bool (tk 33 l false).1) i1 (CallE.put1 (b := 0) rfl (PuBl_rd _ _) (PuBl_rd _ _)) rfl (by simp +decide only [go_sem] <;> rfl) (by simp +decide only [go_sem, List.map]; exact ⟨.ptr rfl, .pu (.base _), trivial⟩) (.pu (.base _))) ?_
      generalize tk 33 l false = T at *
      obtain ⟨t1, t2⟩ := T
      simp only at htl htf ⊢
      refine goD ?_
      cases t1 with
      | true =>
        have i2 := hP t2 false (by omega)
        rw [if_pos rfl]
        refine ift_ ?_
        rcases hy : pcF n t2 false with ⟨⟨o2, s2, l5⟩, l4, f4⟩
        rw [hy] at i2
        simp only at i2 ⊢
        rw [encX_mk] at i2
        simp only [encX_mk, List.map_cons, List.map_nil]
        refine goC ?_
        rw [hw]
        refine ARun.p1 rfl rfl (pl_callH (e := [0]) (d' := .agg [.int o2, str s2, .lst (l5.map encX)]) i2 (CallE.put1 (b := 0) rfl (PuBl_rd _ _) (PuBl_rd _ _)) rfl (by simp +decide only [go_sem] <;> rfl) (by simp +decide only [go_sem, List.map]; exact ⟨.ptr rfl, .pu (.base _), trivial⟩) (.pu (Pu_aggX _ _ _))) ?_
        refine goC ?_
        refine bslA Try.underlying22 sz24 ?_
        refine bldA pl24 zero24 ?_
        refine goC ?_
        exact RetH.of (vs := [.agg [.int 8, str ByteArray.empty, .lst [.agg [.int o2, str s2, .lst (l5.map encX)]]]]) [0] (by kernel_rfl) (by decide) (fun b hb => sel1 b hb) ⟨⟨_, rfl, .pu (PuB_rd _ _)⟩, trivial⟩ (.pu (show Pu (.agg [.int 8, str ByteArray.empty, .lst [.agg [.int o2, str s2, .lst (l5.map encX)]]]) by have := Pu_enc (.mk 8 ByteArray.empty [.mk o2 s2 l5]); simpa only [encX_mk, List.map_cons, List.map_nil] using this))
      | false =>
        rw [if_neg (by simp)]
        refine iff_ ?_
        obtain rfl : t2 = l := htf rfl
        have hAl := hA.len t2 false
        have i2 := any_ok t2 false
        have hal := (an_len t2 false).1
        obtain ⟨O, hO⟩ : ∃ O, O = atomF (exF (pcF n)) t2 false := ⟨_, rfl⟩
        have hO2 := hO
        simp only [atomF] at hO2
        rw [← hO] at hAl ⊢
        refine goD ?_
        refine ARun.p1 rfl rfl (pl_callH (e := [0]) (d' := chr (an t2 false).1) i2 (CallE.put1 (b := 0) rfl (PuBl_rd _ _) (PuBl_rd _ _)) rfl (by simp +decide only [go_sem] <;> rfl) (by simp +decide only [go_sem, List.map]; exact ⟨.ptr rfl, trivial⟩) (.pu (.base _))) ?_
        generalize an t2 false = A at *
        obtain ⟨c, l1, f1⟩ := A
        simp only at hO2 hal ⊢
        obtain ⟨⟨o2, s2, l2⟩, l3, f3⟩ := O
        simp only at hAl ⊢
        refine gnD ?_
        refine keA [0, 1, 4, 6, 7, 30] ?_
        refine AWp.joinH [] [rdB l3 f3, zX, ⟨24, 3, [.agg [.int o2, str s2, .lst (l2.map encX)]]⟩] ?_ ?_
        · refine AWp.block ?_
          refine goD ?_
          refine ifA (fun h40 => ?_) (fun h40 => ?_)
          · have h40 : c = 40 := UInt8.toNat_inj.1 (by show c.toNat = 40; simp at h40; omega)
            rw [if_pos h40] at hO2
            have i3 := take_ok l1 f1 41 (by decide)
            have htf2 := tk_f (c := 41) (l := l1) (f := f1)
            refine goD ?_
            refine ARun.p1 rfl rfl (pl_callH (e := [0]) (d' := .bool (tk 41 l1 f1).1) i3 (CallE.put1 (b := 0) rfl (PuBl_rd _ _) (PuBl_rd _ _)) rfl (by simp +decide only [go_sem] <;> rfl) (by simp +decide only [go_sem, List.map]; exact ⟨.ptr rfl, .pu (.base _), trivial⟩) (.pu (.base _))) ?_
            generalize tk 41 l1 f1 = T at *
            obtain ⟨t1, t2⟩ := T
            simp only at htf2 hO2 ⊢
            cases t1 with
            | true =>
              rw [if_pos rfl] at hO2
              injection hO2 with e1 e2
              injection e1 with e3 e4 e5
              injection e2 with e6 e7
              subst e3 e4 e5 e6 e7
              refine goD ?_
              refine ift_ ?_
              refine goD ?_
              exact Wk.selB [0, 1, 2] (by decide) (fun b hb => sel3 b hb) ⟨⟨_, rfl, .pu (PuB_rd _ _)⟩, ⟨_, rfl, .pu (PuB_zX 0 _)⟩, ⟨_, rfl, .one ⟨.pu (.base _), .pu (.base _), .nilS, trivial⟩⟩, trivial⟩ (WkR.all (by simp +decide only [go_sem, WkR]; (repeat' apply And.intro) <;> first | exact .ptr rfl | exact .pu (.base _)))
            | false =>
              rw [if_neg (by simp)] at hO2
              obtain rfl : t2 = l1 := htf2 rfl
              have i4 := hE t2 f1 (by omega)
              rcases he : exF (pcF n) t2 f1 with ⟨⟨o5, s5, l5⟩, l6, f6⟩
              rw [he] at i4 hO2
              simp only at i4 hO2
              rw [encX_mk] at i4
              injection hO2 with e1 e2
              injection e1 with e3 e4 e5
              injection e2 with e6 e7
              subst e3 e4 e5 e6 e7
              refine goD ?_
              refine iff_ ?_
              refine goC ?_
              rw [hw]
              refine ARun.p1 rfl rfl (pl_callH (e := [0]) (d' := .agg [.int o2, str s2, .lst (l2.map encX)]) i4 (CallE.put1 (b := 0) rfl (PuBl_rd _ _) (PuBl_rd _ _)) rfl (by simp +decide only [go_sem] <;> rfl) (by simp +decide only [go_sem, List.map]; exact ⟨.ptr rfl, .pu (.base _), trivial⟩) (.pu (Pu_aggX _ _ _))) ?_
              refine goD ?_
              cases f6 with
              | true =>
                refine gxA (.bool true) ?_
                refine goD ?_
                exact Wk.selB [0, 1, 2] (by decide) (fun b hb => sel3 b hb) ⟨⟨_, rfl, .pu (PuB_rd _ _)⟩, ⟨_, rfl, .pu (PuB_zX 0 _)⟩, ⟨_, rfl, .pu (PuB_X1' _ _ _)⟩, trivial⟩ (WkR.all (by simp +decide only [go_sem, WkR]; (repeat' apply And.intro) <;> first | exact .ptr rfl | exact .pu (.base _)))
              | false =>
                have i5 := take_ok l6 false 41 (by decide)
                refine ARun.gpl rfl rfl (by simp +decide only [go_sem] <;> rfl) (by rfl) (pl_callH (e := [0]) (d' := .bool (tk 41 l6 false).1) i5 (CallE.put1 (b := 0) rfl (PuBl_rd _ _) (PuBl_rd _ _)) rfl (by simp +decide only [go_sem] <;> rfl) (by simp +decide only [go_sem, List.map]; exact ⟨.ptr rfl, .pu (.base _), trivial⟩) (.pu (.base _))) ?_
                refine goD ?_
                exact Wk.selB [0, 1, 2] (by decide) (fun b hb => sel3 b hb) ⟨⟨_, rfl, .pu (PuB_rd _ _)⟩, ⟨_, rfl, .pu (PuB_zX 0 _)⟩, ⟨_, rfl, .pu (PuB_X1' _ _ _)⟩, trivial⟩ (WkR.all (by simp +decide only [go_sem, WkR]; (repeat' apply And.intro) <;> first | exact .ptr rfl | exact .pu (.base _)))
          have h40 : c ≠ 40 := fun e => by rw [e] at h40; simp at h40
          rw [if_neg h40] at hO2
          refine goD ?_
          refine ifA (fun h91 => ?_) (fun h91 => ?_)
          · have h91 : c = 91 := UInt8.toNat_inj.1 (by show c.toNat = 91; simp at h91; omega)
            rw [if_pos h91] at hO2
            have i3 := set_ok2 l1 f1 (by omega)
            rcases hs : setF (l1.length + 2) [] l1 f1 with ⟨a, l5, f5⟩
            rw [hs] at i3 hO2
            simp only at i3 hO2
            injection hO2 with e1 e2
            injection e2 with e6 e7
            subst e6 e7
            rw [← e1, encX_mk] at i3
            refine goD ?_
            refine ARun.p1 rfl rfl (pl_callH (e := [0]) (d' := .agg [.int o2, str s2, .lst (l2.map encX)]) i3 (CallE.put1 (b := 0) rfl (PuBl_rd _ _) (PuBl_rd _ _)) rfl (by simp +decide only [go_sem] <;> rfl) (by simp +decide only [go_sem, List.map]; exact ⟨.ptr rfl, trivial⟩) (.pu (Pu_aggX _ _ _))) ?_
            refine goD ?_
            exact Wk.selB [0, 1, 2] (by decide) (fun b hb => sel3 b hb) ⟨⟨_, rfl, .pu (PuB_rd _ _)⟩, ⟨_, rfl, .pu (PuB_zX 0 _)⟩, ⟨_, rfl, .pu (PuB_X1' _ _ _)⟩, trivial⟩ (WkR.all (by simp +decide only [go_sem, WkR]; (repeat' apply And.intro) <;> first | exact .ptr rfl | exact .pu (.base _)))
          have h91 : c ≠ 91 := fun e => by rw [e] at h91; simp at h91
          rw [if_neg h91] at hO2
          refine goD ?_
          refine ifA (fun h92 => ?_) (fun h92 => ?_)
          · have h92 : c = 92 := UInt8.toNat_inj.1 (by show c.toNat = 92; simp at h92; omega)
            rw [if_pos h92] at hO2
            have i3 := any_ok l1 f1
            generalize an l1 f1 = A at *
            obtain ⟨c5, l5, f5⟩ := A
            simp only at i3 hO2
            injection hO2 with e1 e2
            injection e1 with e3 e4 e5
            injection e2 with e6 e7
            subst e3 e4 e5 e6 e7
            refine goC ?_
            refine ARun.p1 rfl rfl (pl_callH (e := [0]) (d' := chr c5) i3 (CallE.put1 (b := 0) rfl (PuBl_rd _ _) (PuBl_rd _ _)) rfl (by simp +decide only [go_sem] <;> rfl) (by simp +decide only [go_sem, List.map]; exact ⟨.ptr rfl, trivial⟩) (.pu (.base _))) ?_
            refine goC ?_
            refine bslA Try.underlying32 sz5 ?_
            refine ARun.q1 rfl rfl (ql_bytesStrL (l := [((c5.toNat : Nat) : Int)]) (by simp +decide only [go_sem] <;> rfl) (.pu (Pu_u8o c5)) Try.underlying32 Try.underlying5 Try.underlying9) ?_
            rw [u8_oneL]
            refine bldA pl24 zero24 ?_
            refine goC ?_
            exact Wk.selB [0, 1, 2] (by decide) (fun b hb => sel3 b hb) ⟨⟨_, rfl, .pu (PuB_rd _ _)⟩, ⟨_, rfl, .pu (PuB_zX 0 _)⟩, ⟨_, rfl, .one ⟨.pu (.base _), .pu (.base _), .nilS, trivial⟩⟩, trivial⟩ (WkR.all (by simp +decide only [go_sem, WkR]; (repeat' apply And.intro) <;> first | exact .ptr rfl | exact .pu (.base _)))
          have h92 : c ≠ 92 := fun e => by rw [e] at h92; simp at h92
          rw [if_neg h92] at hO2
          injection hO2 with e1 e2
          injection e1 with e3 e4 e5
          injection e2 with e6 e7
          subst e3 e4 e5 e6 e7
          refine goC ?_
          refine bslA Try.underlying32 sz5 ?_
          refine ARun.q1 rfl rfl (ql_bytesStrL (l := [((c.toNat : Nat) : Int)]) (by simp +decide only [go_sem] <;> rfl) (.pu (Pu_u8o c)) Try.underlying32 Try.underlying5 Try.underlying9) ?_
          rw [u8_oneL]
          refine bldA pl24 zero24 ?_
          refine goC ?_
          exact Wk.selB [0, 1, 2] (by decide) (fun b hb => sel3 b hb) ⟨⟨_, rfl, .pu (PuB_rd _ _)⟩, ⟨_, rfl, .pu (PuB_zX 0 _)⟩, ⟨_, rfl, .one ⟨.pu (.base _), .pu (.base _), .nilS, trivial⟩⟩, trivial⟩ (WkR.all (by simp +decide only [go_sem, WkR]; (repeat' apply And.intro) <;> first | exact .ptr rfl | exact .pu (.base _)))
        have i2 := take_ok l3 f3 42 (by decide)
        refine goD ?_
        refine ARun.p1 rfl rfl (pl_callH (e := [0]) (d' := .bool (tk 42 l3 f3).1) i2 (CallE.put1 (b := 0) rfl (PuBl_rd _ _) (PuBl_rd _ _)) rfl (by simp +decide only [go_sem] <;> rfl) (by simp +decide only [go_sem, List.map]; exact ⟨.ptr rfl, .pu (.base _), trivial⟩) (.pu (.base _))) ?_
        have htf2 := tk_f (c := 42) (l := l3) (f := f3)
        generalize tk 42 l3 f3 = T at *
        obtain ⟨t1, t2⟩ := T
        simp only at htf2 ⊢
        cases t1 with
        | true =>
          rw [if_pos rfl]
          refine goD ?_
          refine ift_ ?_
          refine goC ?_
          refine bslA Try.underlying22 sz24 ?_
          refine bldA pl24 zero24 ?_
          refine goC ?_
          simp only [encX_mk, List.map_cons, List.map_nil]
          exact RetH.of (vs := [.agg [.int 6, str ByteArray.empty, .lst [.agg [.int o2, str s2, .lst (l2.map encX)]]]]) [0] (by kernel_rfl) (by decide) (fun b hb => sel1 b hb) ⟨⟨_, rfl, .pu (PuB_rd _ _)⟩, trivial⟩ (.pu (show Pu (.agg [.int 6, str ByteArray.empty, .lst [.agg [.int o2, str s2, .lst (l2.map encX)]]]) by have := Pu_enc (.mk 6 ByteArray.empty [.mk o2 s2 l2]); simpa only [encX_mk, List.map_cons, List.map_nil] using this))
        | false =>
          rw [if_neg (by simp)]
          obtain rfl : t2 = l3 := htf2 rfl
          refine goD ?_
          refine iff_ ?_
          refine goD ?_
          simp only [encX_mk]
          exact RetH.of (vs := [.agg [.int o2, str s2, .lst (l2.map encX)]]) [0] (by kernel_rfl) (by decide) (fun b hb => sel1 b hb) ⟨⟨_, rfl, .pu (PuB_rd _ _)⟩, trivial⟩ (.pu (Pu_aggX _ _ _))
end Go.Ab
