/- Part of the proof. -/
import Derived.Test.YtjfahhbobiiphaaYB
import Derived.Test.YtjfahhbobiiphaaXX
import Derived.Test.YtjfahhbobiiphaaAbL
set_option linter.unusedSimpArgs false
set_option linter.unusedVariables false
-- fnh
set_option maxHeartbeats 4000000
namespace Go.Ab
open Go Go.Ab Go.Proofs Go.Ab.Ty

/-! ### Parse -/
abbrev par (l : List UInt8) : Rx × List UInt8 × Bool := exF (pcF 121) l false
abbrev parOk (l : List UInt8) : Prop := (par l).2.2 = false ∧ (par l).2.1 = [] ∧ (par l).1.valid ∧ txt (par l).1 = l
open Classical in
noncomputable def parR (l : List UInt8) : Rx := if parOk l then (par l).1 else rx0
open Classical in
noncomputable def parE (l : List UInt8) : Int := if parOk l then 0 else 4
theorem expr_ok (l : List UInt8) (f : Bool) (hl : l.length ≤ 1000000) : FnH Try.prog 79 [.ptr 0 1 0 0, .int 121] [rdB l f] (encX (exF (pcF 121) l f).1) [rdB (exF (pcF 121) l f).2.1 (exF (pcF 121) l f).2.2] := expr_of 121 (piece_ok 121 (by omega)) l f hl
theorem bsL_beq (a b : List UInt8) : ((bsL a).toList == (bsL b).toList) = decide (a = b) := by
  rw [Bool.eq_iff_iff, beq_iff_eq, decide_eq_true_iff, bs_toList]
  exact ⟨fun h => by have := congrArg (fun s : ByteArray => s.data.toList) h; simpa using this, fun h => by rw [h]⟩
theorem parse_gen (l : List UInt8) (hl : l.length ≤ 1000000) (h : (par l).2.2 = false → (par l).2.1 = [] → (par l).1.ok ∧ (par l).1.cnt ≤ 1000000000) : Fn Try.prog 41 [str (bsL l)] (.tup [encX (parR l), .int (parE l)]) := by
  have i1 := expr_ok l false hl
  have hT : parOk l → parR l = (par l).1 ∧ parE l = 0 := fun h => ⟨if_pos h, if_pos h⟩
  have hF : ¬ parOk l → parR l = rx0 ∧ parE l = 4 := fun h => ⟨if_neg h, if_neg h⟩
  unfold parOk at hT hF
  generalize parR l = R at *
  generalize parE l = e at *
  unfold par at *
  generalize exF (pcF 121) l false = P at *
  obtain ⟨⟨o, s, L⟩, t, f⟩ := P
  simp only at i1 hT hF h
  rw [encX_mk] at i1
  refine Fn.intro' [(0, str (bsL l))] 1 39 Try.func41 (by kernel_rfl) rfl rfl rfl rfl rfl ?_
  refine goD ?_
  refine bldA pl94 zero94 ?_
  refine goD ?_
  refine ARun.p1 rfl rfl (pl_callH (e := [1]) (d' := .agg [.int o, str s, .lst (L.map encX)]) i1 (CallE.put1 (b := 1) rfl (PuBl_rd _ _) (PuBl_rd _ _)) rfl (by simp +decide only [go_sem] <;> rfl) (by simp +decide only [go_sem, List.map]; exact ⟨.ptr rfl, .pu (.base _), trivial⟩) (.pu (Pu_aggX _ _ _))) ?_
  refine goD ?_
  refine ifA (fun q1 => ?_) (fun q1 => ?_)
  · obtain ⟨r1, e1⟩ := hF (by
      rintro ⟨a, b, _⟩
      simp [a, b, bsL_emp] at q1)
    rw [r1, e1, encX_rx0]
    refine goD ?_
    refine bldA pl24 zero24 ?_
    refine goD ?_
    exact ⟨[.agg [.int 0, str ByteArray.empty, .base (.slice none 0 0)], .int 4], by kernel_rfl, Pub.tup' ⟨Pub.agg' (show PubL _ 0 [_, _, _] [_, _, _] from ⟨.pu (.base _), .pu (.base _), .nilS, trivial⟩), .pu (.base _), trivial⟩⟩
  have q1 : f = false ∧ t = [] := by simpa [bsL_emp] using q1
  obtain ⟨rfl, rfl⟩ := q1
  have i2 := format_ok (.mk o s L) (h rfl rfl).1 (h rfl rfl).2
  rw [encX_mk] at i2
  unfold fmtA at i2
  by_cases q2 : (Rx.mk o s L).valid
  · rw [if_pos q2] at i2
    refine goD ?_
    refine callA (i2) ?_
    refine goD ?_
    refine ifA (fun q3 => ?_) (fun q3 => ?_)
    · have q3 : txt (.mk o s L) ≠ l := by simpa [bsL_beq] using q3
      obtain ⟨r1, e1⟩ := hF (by
        rintro ⟨_, _, _, b⟩
        exact q3 b)
      rw [r1, e1, encX_rx0]
      refine goD ?_
      refine bldA pl24 zero24 ?_
      refine goD ?_
      exact ⟨[.agg [.int 0, str ByteArray.empty, .base (.slice none 0 0)], .int 4], by kernel_rfl, Pub.tup' ⟨Pub.agg' (show PubL _ 0 [_, _, _] [_, _, _] from ⟨.pu (.base _), .pu (.base _), .nilS, trivial⟩), .pu (.base _), trivial⟩⟩
    have q3 : txt (.mk o s L) = l := by simpa [bsL_beq] using q3
    obtain ⟨r1, e1⟩ := hT ⟨rfl, rfl, q2, q3⟩
    rw [r1, e1, encX_mk]
    refine goD ?_
    exact ⟨[.agg [.int o, str s, .lst (L.map encX)], .int 0], by kernel_rfl, .pu (Pu_tup2 (Pu_aggX _ _ _) (.base _))⟩
  · rw [if_neg q2] at i2
    refine goD ?_
    refine callA (i2) ?_
    refine goD ?_
    refine ift_ ?_
    obtain ⟨r1, e1⟩ := hF (by
        rintro ⟨_, _, b, _⟩
        exact q2 b)
    rw [r1, e1, encX_rx0]
    refine goD ?_
    refine bldA pl24 zero24 ?_
    refine goD ?_
    exact ⟨[.agg [.int 0, str ByteArray.empty, .base (.slice none 0 0)], .int 4], by kernel_rfl, Pub.tup' ⟨Pub.agg' (show PubL _ 0 [_, _, _] [_, _, _] from ⟨.pu (.base _), .pu (.base _), .nilS, trivial⟩), .pu (.base _), trivial⟩⟩
theorem par_txt (r : Rx) (hv : r.valid) : par (txt r) = (r, [], false) := by
  have h := (pc_ec r hv.2).2 121 [] (by have := hv.1.2; omega) (.inl rfl)
  rwa [List.append_nil] at h
theorem parse_txt (r : Rx) (hv : r.valid) (hl : (txt r).length ≤ 1000000) : Fn Try.prog 41 [str (bsL (txt r))] (.tup [encX r, .int 0]) := by
  have h := par_txt r hv
  have h1 : parOk (txt r) := by unfold parOk; rw [h]; exact ⟨rfl, rfl, hv, rfl⟩
  have := parse_gen (txt r) hl (fun _ _ => by rw [h]; exact ⟨wf_ok _ hv.2, by have := hv.1.1; simp only; omega⟩)
  rwa [show parR (txt r) = (par (txt r)).1 from if_pos h1, show parE (txt r) = 0 from if_pos h1, h] at this
end Go.Ab
set_option maxHeartbeats 4000000
namespace Go.Ab
open Go Go.Ab Go.Proofs Go.Ab.Ty

/-! ### the law of texts -/
open Classical in
theorem law_texts (r : Rx) (hok : r.ok) : Fn Try.prog 8 [encX r] (.bool true) := by
  have i1 := small_ok [r] (Nat.le_of_lt (by decide : 1 < maxLen)) (by simpa using hok)
  have hsm : smallX r → r.cnt ≤ 80 := fun h => h.1
  have i2 := fun h : r.cnt ≤ 80 => format_ok r hok (by omega)
  have i3 := refFormat_ok r hok
  have i4 := fun h : r.cnt ≤ 80 => valid_ok r hok (by omega)
  have i5 := refValid_ok r hok
  have i6 := fun h : r.valid => parse_txt r h (by have := txt_len r h.2; have := h.1.1; omega)
  have i7 := refEq_ok r r hok
  have j0 := awake_true
  have hf : ∃ (T : ByteArray) (e : Int), fmtA r = .tup [str T, .int e] ∧ (r.valid → T = bsL (txt r) ∧ e = 0) ∧ (¬ r.valid → e = 4) := by
    by_cases h : r.valid
    · exact ⟨_, _, if_pos h, fun _ => ⟨rfl, rfl⟩, fun h2 => absurd h h2⟩
    · exact ⟨_, _, if_neg h, fun h2 => absurd h2 h, fun _ => rfl⟩
  obtain ⟨T, e, hf, hv, hn⟩ := hf
  rw [hf] at i2 i3
  generalize txt r = t at *
  obtain ⟨o, s, l⟩ := r
  rw [List.map_cons, List.map_nil, encX_mk] at i1
  rw [encX_mk] at i2 i3 i4 i5 i6 i7 ⊢
  refine Fn.intro' [(0, .agg [.int o, str s, .lst (l.map encX)])] 1 56 Try.func8 (by kernel_rfl) rfl rfl rfl rfl rfl ?_
  refine goA ?_
  refine bslA Try.underlying22 sz24 ?_
  refine callA (i1) ?_
  refine goB ?_
  refine ifA (fun q1 => ?_) (fun q1 => ?_)
  · refine goB ?_
    exact Ret.bool rfl (by simp)
  simp at q1
  have h80 := q1.1
  have i2 := i2 h80
  have i4 := i4 h80
  refine goB ?_
  refine callA (i2) ?_
  refine goB ?_
  refine callA (i3) ?_
  refine goB ?_
  refine keA [0, 1, 2, 3, 4, 5, 6] ?_
  refine drA (k := 15) follows (hr := ?_)
  refine goB ?_
  refine callA (i4) ?_
  refine goB ?_
  refine callA (i5) ?_
  refine goB ?_
  refine ifA (fun q2 => ?_) (fun q2 => ?_)
  · exfalso
    simp at q2
  clear q2
  refine goB ?_
  refine ifA (fun q3 => ?_) (fun q3 => ?_)
  · refine goB ?_
    refine callA (j0) ?_
    refine goB ?_
    exact Ret.bool rfl (by simp)
  have q4 : (Rx.mk o s l).valid := Classical.byContradiction fun h => by simp [hn h] at q3
  have i6 := i6 q4
  obtain ⟨rfl, rfl⟩ := hv q4
  refine goB ?_
  refine callA (i6) ?_
  refine goB ?_
  refine gcallA (i := fun hg => i7) (hr := ?_)
  refine goB ?_
  refine gcallA (i := fun hg => j0) (hr := ?_)
  refine goB ?_
  exact Ret.bool rfl (by simp)
end Go.Ab
