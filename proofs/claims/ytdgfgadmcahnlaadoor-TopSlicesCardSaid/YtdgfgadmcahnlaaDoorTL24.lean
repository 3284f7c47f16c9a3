/- Part of the proof. -/
import Derived.Test.YtdgfgadmcahnlaaDoorTS24
import Derived.Test.YtdgfgadmcahnlaaDoorTW24
import Derived.Test.YtdgfgadmcahnlaaDoorAbZQ
set_option linter.unusedSimpArgs false
set_option linter.unusedVariables false
set_option maxHeartbeats 4000000
namespace Go.Ab
open Go Go.Ab Go.Proofs Go.Ab.Ty

/-! ### the law of a text that is cut again and again -/
noncomputable def catN (L : List ByteArray) (k : Nat) : Nat := (cat (L.take k)).size
noncomputable def cluN (L : List ByteArray) (k : Nat) : List ByteArray := ((L.take k).map clu).flatten
theorem cat_append (a b : List ByteArray) : cat (a ++ b) = cat a ++ cat b := by
  simp [Go.Ab.cat, ByteArray.ext_iff]
theorem Ct.facts {s : ByteArray} (he : errF s = 0) {L : List ByteArray} (hC : Ct s 0 L (clu s).length) :
    Go.Ab.cat L = s ∧ (L.map clu).flatten = clu s ∧ (∀ k (h : k < L.length), errB s L[k] = 0 ∧ 0 ≤ findR s L[k] ∧ findR s L[k] ≤ catN L k) ∧ catN L 0 = 0 ∧
    (∀ k (h : k < L.length), catN L (k + 1) = catN L k + L[k].size) ∧ (∀ k, catN L k ≤ s.size) ∧ cluN L 0 = [] ∧ (∀ k (h : k < L.length), cluN L (k + 1) = cluN L k ++ clu L[k]) ∧ (∀ k, (cluN L k).length ≤ (clu s).length) := by
  have hv := (errF_sz he).2
  have h1 : Go.Ab.cat L = s := by rw [hC.cat, seg_all]
  have h2 : (L.map clu).flatten = clu s := by rw [hC.clus hv]; simp
  refine ⟨h1, h2, fun k h => ?_, rfl, fun k h => ?_, fun k => ?_, rfl, fun k h => ?_, fun k => ?_⟩
  · obtain ⟨b, c, hbc, c1, c2, c3⟩ := hC.at h
    have hc := c3.le
    have hf := find_seg he hbc (by omega : c ≤ (clu s).length)
    rw [c2]
    refine ⟨hf.1, hf.2.1, ?_⟩
    rw [catN, c1.cat, seg_len (Nat.zero_le _) (by omega), cutP_0]
    exact hf.2.2
  · rw [catN, List.take_succ_eq_append_getElem h, cat_append, cat_one, ByteArray.size_append]; rfl
  · have := congrArg ByteArray.size h1
    rw [← List.take_append_drop k L, cat_append, ByteArray.size_append] at this
    rw [catN]; omega
  · rw [cluN, List.take_succ_eq_append_getElem h, List.map_append, List.flatten_append]; simp [cluN]
  · have := congrArg List.length h2
    rw [← List.take_append_drop k L, List.map_append, List.flatten_append, List.length_append] at this
    rw [cluN]; omega
theorem ql_clipL {H : List ABlk} {ρ : Operand → AV} {x y z : Operand} {L : List ByteArray} {v : Nat} (hx : ρ x = .lst (L.map str)) (hy : ρ y = .int v) (hz : ρ z = .int v) (hv : v ≤ L.length) : QL Tryd.prog H ρ (.slice 25 x none (some y) (some z)) (.clip (.lst ((L.take v).map str))) := by
  have := ql_slice_clip (P := Tryd.prog) (H := H) (sz := 1) hx Tryd.underlying25 hy hz (by rw [List.length_map]; exact hv) el9s (fun e he => by obtain ⟨_, _, rfl⟩ := List.mem_map.1 he; rfl)
  rw [← List.map_take] at this
  exact this
theorem seg_halves (x : ByteArray) {q : Nat} (hq : q ≤ (clu x).length) : seg x 0 q ++ seg x q (clu x).length = x := by
  rw [seg_app (Nat.zero_le _) hq (Nat.le_refl _), seg_all]
abbrev u16 (c : Int) : AV := .base (.int .u16 c)
theorem Pu_u16 (l : List Int) : Pu (.lst (l.map u16)) := .lst fun e he c hc => by
  obtain ⟨x, _, rfl⟩ := List.mem_map.1 he
  simp only [AV.cells, List.mem_singleton] at hc
  subst hc; exact .base _
theorem slices10_law (s : ByteArray) (cuts : List Int) (hcut : cuts.length ≤ maxLen) (hr : ∀ n ∈ cuts, 0 ≤ n ∧ n ≤ 65535) : FnM Tryd.prog mm24 10 [str s, .lst (cuts.map u16)] (.bool true) := by
  have i0 := letters_ok
  have i1 := clustersX_ok s
  refine FnM.intro' [(0, str s), (1, .lst (cuts.map u16))] 2 199 Tryd.func10 (by kernel_rfl) rfl rfl rfl rfl rfl ?_
  refine goB ?_
  refine callA (i1) ?_
  refine goB ?_
  refine ifA (fun h => ?_) (fun h => ?_)
  · refine goB ?_
    refine callA (i0) ?_
    refine goB ?_
    exact Ret.bool rfl Iff.rfl
  simp at h
  obtain ⟨he, hc8⟩ := h
  have hcl : cluE s = clu s := by rw [cluE, if_pos he]
  rw [hcl]
  have hv := (errF_sz he).2
  have hz := (errF_sz he).1
  have hC0 : Ct s 0 [s] (clu s).length := by
    have := Ct.cons (s := s) (a := 0) (Nat.zero_le _) (.nil (clu s).length (Nat.le_refl _))
    rw [seg_all] at this
    exact this
  refine goB ?_
  refine keA [0, 1, 5, 7, 8, 1000000] ?_
  refine AWp.loopP (J := fun y : Nat × List ByteArray => y.1 ≤ cuts.length ∧ y.2.length = y.1 + 1 ∧ Ct s 0 y.2 (clu s).length) (fun y => [(8, .int y.1), (7, .lst (y.2.map str))]) (fun y => cuts.length - y.1) (0, [s]) ⟨Nat.zero_le _, rfl, hC0⟩ .wk ?_
  rintro ⟨k, L⟩ ⟨hk, hL, hC⟩
  simp only at hk hL hC ⊢
  refine goB ?_
  refine ifA (fun h2 => ?_) (fun h2 => ?_)
  · have h2 := of_decide_eq_true h2
    have hk2 : k < cuts.length := by omega
    have hg : nth 0 cuts (k : Int) = cuts[k] := nth_eq hk2
    have hrk := hr _ (List.getElem_mem hk2)
    obtain ⟨v, hv1, i2⟩ := withinX_ok cuts[k] L.length (by omega) (by omega)
    have hgL : nth default L (v : Int) = L[v] := nth_eq hv1
    have hx := hC.err he _ (List.getElem_mem hv1)
    have i3 := countX_ok L[v]
    have hcx : cluE L[v] = clu L[v] := by rw [cluE, if_pos hx]
    rw [hcx, hx] at i3
    refine goB ?_
    rw [hg]
    rw [wrap_id (by omega) (by omega)]
    refine callA (i2) ?_
    refine goB ?_
    rw [hgL]
    refine callA (i3) ?_
    refine goB ?_
    refine keA [0, 1, 5, 7, 8, 9, 10, 11, 1000000] ?_
    refine drA (k := 18) follows (hr := ?_)
    refine goB ?_
    rw [hg, hgL, wrap_id (x := cuts[k]) (by omega) (by omega)]
    have hn4 : (clu L[v]).length ≤ 1000 := by
      have h1 := clu_len L[v]
      have h2 := mks_len L[v]
      have h3 := (errF_sz hx).1
      omega
    obtain ⟨q, hq, i4⟩ := withinX_ok (IntKind.i64.wrap (cuts[k].tdiv 7)) ((clu L[v]).length + 1) (by omega) (by omega)
    have hq : q ≤ (clu L[v]).length := by omega
    have i5 := nth_ok L[v] q
    rw [nthS_cut hx hq] at i5
    have s1 := slcS_cut hx (Nat.zero_le q) hq
    have s2 := slcS_cut hx hq (Nat.le_refl _)
    rw [cutP_0] at s1
    rw [cutP_end] at s2
    have i6 := slice_ok L[v] 0 (cutP L[v] q : Nat)
    have i7 := slice_ok L[v] (cutP L[v] q : Nat) L[v].size
    rw [show ((0 : Nat) : Int) = 0 from rfl] at s1
    rw [s1] at i6
    rw [s2] at i7
    have hxy := seg_halves L[v] hq
    have hCt := hC.cut he hv1 hq
    have hsz := (errF_sz hx).1
    have hz1 := seg_size (s := L[v]) (i := 0) (j := q)
    have hz2 := seg_size (s := L[v]) (i := q) (j := (clu L[v]).length)
    rw [wrap_succ (show (clu L[v]).length < 9223372036854775807 by omega)]
    refine callA (i4) ?_
    refine goB ?_
    refine callA (i5) ?_
    refine goB ?_
    refine ifF ?_
    refine goB ?_
    rw [hgL]
    refine callA (i6) ?_
    refine goB ?_
    refine drA (k := 15) follows (hr := ?_)
    refine goB ?_
    rw [hgL]
    refine callA (i7) ?_
    refine goB ?_
    refine gqA (h := fun hg => ql_addStr (a := seg L[v] 0 q) (b := seg L[v] q (clu L[v]).length) rfl rfl (by omega)) (hr := ?_)
    rw [hxy]
    refine goB ?_
    refine gqA (h := fun hg => ql_idxI (l := L) (by simp +decide only [go_sem] <;> rfl) (by simp +decide only [go_sem] <;> rfl) Tryd.underlying25 (by omega) (by simp; omega) (by kernel_rfl)) (hr := ?_)
    refine goB ?_
    rw [hgL, show (!L[v].toList == L[v].toList) = false by simp]
    refine ifF ?_
    refine keA [0, 1, 5, 7, 8, 9, 14, 16, 1000000] ?_
    repeat (with_reducible first | apply zs | apply zk | apply z1 | apply z4)
    (with_reducible apply zR); (refine ⟨rfl, rfl, ?_⟩; simp +decide only [go_sem, List.map]; rfl)
    refine ARun.q1 rfl rfl (ql_fun (by simp +decide only [go_sem] <;> rfl)) ?_
    refine ARun.q1 rfl rfl (ql_fun (by simp +decide only [go_sem] <;> rfl)) ?_
    refine ARun.p1 rfl rfl (pl_buildSlice (es := [seg L[v] 0 q, seg L[v] q (clu L[v]).length].map str) (by decide) Tryd.underlying25 el9s (by kernel_rfl) (by decide) (by simp +decide only [go_sem] <;> rfl) rfl (by rfl)) ?_
    refine goB ?_
    rw [wrap_succ (by omega)]
    refine ARun.q1 rfl rfl (ql_slcL (l := L) (a := v + 1) (b := L.length) (by simp +decide only [go_sem] <;> rfl) (by simp [bnd, lk, go_sem, stripL, stripA]; omega) rfl (by omega) (Nat.le_refl _) rfl) ?_
    rw [List.take_of_length_le (l := L.drop (v + 1)) (by simp)]
    obtain ⟨M, hMd⟩ : ∃ M, M = seg L[v] 0 q :: seg L[v] q (clu L[v]).length :: L.drop (v + 1) := ⟨_, rfl⟩
    have hMl : M.length = 2 + (L.length - (v + 1)) := by rw [hMd]; simp; omega
    rcases Nat.eq_zero_or_pos (L.length - (v + 1)) with hz0 | hz0
    · have hd0 : L.drop (v + 1) = [] := by simp; omega
      rw [hd0] at hMd hCt ⊢
      refine ARun.q1 rfl rfl (ql_append_zero (b := 0) (tot := 2) (by simp +decide only [go_sem] <;> rfl) (by simp +decide only [go_sem] <;> rfl) (by simp +decide only [go_sem] <;> rfl) Tryd.underlying25 el9d) ?_
      have hMs : [seg L[v] 0 q, seg L[v] q (clu L[v]).length].map str = M.map str := by rw [hMd]
      rw [hMs]
      refine goB ?_
      refine ARun.q1 rfl rfl (ql_clipL (L := L) (v := v) (by simp +decide only [go_sem] <;> rfl) (by simp +decide only [go_sem] <;> rfl) (by simp +decide only [go_sem] <;> rfl) (by omega)) ?_
      refine goB ?_
      refine ARun.p1 rfl rfl (pl_append_clip (A := L.take v) (B := M) (by simp +decide only [go_sem] <;> rfl) (by simp +decide only [go_sem] <;> rfl) (Lend.ownM rfl (by rw [hMd]; rfl) fun x _ => Pu_str x) Tryd.underlying25 el9d (by omega) (by simp; omega) (by simp; omega)) ?_
      refine goB ?_
      rw [wrap_succ (by omega)]
      refine ⟨(k + 1, L.take v ++ M), ⟨by simp only; omega, by simp; omega, by simp only; rw [hMd]; exact hCt⟩, by simp only; omega, ?_⟩
      exact Wk.trim' 0 rfl (by simp +decide only [go_sem, WkP]; exact ⟨.pu (.base _), Pub.ownM (Nat.zero_le _) rfl rfl (fun x _ => Pu_str x), .pu (.base _), .pu (Pu_u16 _), .pu (Pu_strs _), .pu (.mem _)⟩) (fun _ h => by cases h)
    · refine ARun.p1 rfl rfl (pl_append (b := 0) (tot := 2) (es := (L.drop (v + 1)).map str) (by simp +decide only [go_sem] <;> rfl) (by simp +decide only [go_sem] <;> rfl) rfl rfl Tryd.underlying25 el9d rfl rfl (by simp; omega) (fun e he => by obtain ⟨_, _, rfl⟩ := List.mem_map.1 he; exact ⟨rfl, rfl⟩) (by simp; omega) (by simp; omega)) ?_
      have hMs : [seg L[v] 0 q, seg L[v] q (clu L[v]).length].map str ++ (L.drop (v + 1)).map str = M.map str := by rw [hMd]; rfl
      rw [hMs]
      refine goB ?_
      refine ARun.q1 rfl rfl (ql_clipL (L := L) (v := v) (by simp +decide only [go_sem] <;> rfl) (by simp +decide only [go_sem] <;> rfl) (by simp +decide only [go_sem] <;> rfl) (by omega)) ?_
      refine goB ?_
      refine ARun.p1 rfl rfl (pl_append_clip (A := L.take v) (B := M) (by simp +decide only [go_sem] <;> rfl) (by simp +decide only [go_sem] <;> rfl) (Lend.ownM rfl (by rw [hMl]; simp) fun x _ => Pu_str x) Tryd.underlying25 el9d (by omega) (by simp; omega) (by simp; omega)) ?_
      refine goB ?_
      rw [wrap_succ (by omega)]
      refine ⟨(k + 1, L.take v ++ M), ⟨by simp only; omega, by simp; omega, by simp only; rw [hMd]; exact hCt⟩, by simp only; omega, ?_⟩
      exact Wk.trim' 0 rfl (by simp +decide only [go_sem, WkP]; exact ⟨.pu (.base _), Pub.ownM (Nat.zero_le _) rfl rfl (fun x _ => Pu_str x), .pu (.base _), .pu (Pu_u16 _), .pu (Pu_strs _), .pu (.mem _)⟩) (fun _ h => by cases h)
  have h2 := of_decide_eq_false h2
  obtain rfl : k = cuts.length := by omega
  clear hcut
  have hL9 : L.length ≤ 9 := by omega
  obtain ⟨hcat, hfl, hF, hA0, hAs, hAm, hG0, hGs, hGm⟩ := Ct.facts he hC
  have i3 := fun x : ByteArray => clustersX_ok x
  have i4 := fun x : ByteArray => find_ok s x
  have herr := hC.err he
  have hk1 := clu_len s
  have hk2 := mks_len s
  generalize hAd : catN L = A at *
  generalize hGd : cluN L = G at *
  clear hC hAd
  refine goB ?_
  refine keA [0, 5, 7, 19, 20, 21, 1000000] ?_
  refine AWp.weaken (Wk.nil (E2 := [(0, str s), (5, .lst ((clu s).map str)), (7, .lst (L.map str)), (19, .own 0 0 0 0), (20, .int 0), (21, .int 0), (1000000, .mem mm24)]) 9 1 (by simp [lk, Le.refl])) ?_
  refine AWp.loopH (J := fun k : Nat => k ≤ L.length) (fun k => [(19, .own 0 (G k).length 0 (G k).length), (20, .int (A k)), (21, .int k)]) (fun k => [⟨9, 1, (G k).map str⟩]) (fun k => L.length - k) 0 (Nat.zero_le _) (by rw [hG0, hA0]; exact .wk) ?_
  intro k hk
  have hAmk := hAm k
  have hGmk := hGm k
  refine goB ?_
  refine ifA (fun h3 => ?_) (fun h3 => ?_)
  · have h3 := of_decide_eq_true h3
    have hk2 : k < L.length := by omega
    have hg : nth default L (k : Int) = L[k] := nth_eq hk2
    have i3 := i3 L[k]
    have i4 := i4 L[k]
    obtain ⟨f1, f2, f3⟩ := hF k hk2
    have hx := herr _ (List.getElem_mem hk2)
    have hcx : cluE L[k] = clu L[k] := by rw [cluE, if_pos hx]
    rw [hcx, hx] at i3
    rw [f1] at i4
    have hAs := hAs k hk2
    have hGs := hGs k hk2
    have hAm1 := hAm (k + 1)
    have hGm1 := hGm (k + 1)
    refine goB ?_
    rw [hg]
    refine callA (i3) ?_
    refine goB ?_
    rw [hg]
    refine callA (i4) ?_
    refine goB ?_
    refine ifA (fun h4 => ?_) (fun h4 => ?_)
    · exfalso
      simp only [bne_self_eq_false, Bool.cond_eq_ite, Bool.if_true_left, Bool.or_eq_true, decide_eq_true_eq, Bool.false_eq_true, false_or] at h4
      omega
    refine goB ?_
    rcases Nat.eq_zero_or_pos (clu L[k]).length with hz0 | hz0
    · have hd0 : clu L[k] = [] := List.length_eq_zero_iff.1 hz0
      rw [hd0]
      rw [hd0, List.append_nil] at hGs
      refine ARun.q1 rfl rfl (ql_append_zero (b := 0) (tot := (G k).length) (by simp +decide only [go_sem] <;> rfl) (by simp [fresh]) (by simp +decide only [go_sem] <;> rfl) Tryd.underlying25 el9d) ?_
      refine goB ?_
      rw [hg, wrap_succ (by omega), wrap_id (by omega) (by omega), show ((A k : Nat) : Int) + L[k].size = ((A (k + 1) : Nat) : Int) by omega]
      exact ⟨k + 1, by omega, by omega, by rw [hGs]; exact .wk⟩
    · have hl2 : (G (k + 1)).length = (G k).length + (clu L[k]).length := by rw [hGs, List.length_append]
      refine ARun.p1 rfl rfl (pl_append (b := 0) (tot := (G k).length) (es := (clu L[k]).map str) (by simp +decide only [go_sem] <;> rfl) (by simp +decide only [go_sem] <;> rfl) rfl (by simp) Tryd.underlying25 el9d rfl rfl (by simp; omega) (fun e he => by obtain ⟨_, _, rfl⟩ := List.mem_map.1 he; exact ⟨rfl, rfl⟩) (by simp; omega) (by simp; omega)) ?_
      have hb2 : (G k).map str ++ (clu L[k]).map str = (G (k + 1)).map str := by rw [hGs, List.map_append]
      rw [hb2]
      refine goB ?_
      rw [hg, wrap_succ (by omega), wrap_id (by omega) (by omega), show ((A k : Nat) : Int) + L[k].size = ((A (k + 1) : Nat) : Int) by omega]
      refine ⟨k + 1, by omega, by omega, ?_⟩
      rw [hl2]
      exact .wk
  have h3 := of_decide_eq_false h3
  obtain rfl : k = L.length := by omega
  have hGe : G L.length = clu s := by rw [← hGd]; simp [cluN, hfl]
  rw [hGe]
  have i9 := eqStrs_ok (clu s) (clu s) (by omega) (by omega)
  have i10 := joinE_ok L
  rw [hcat] at i10
  refine goB ?_
  refine ARun.q1 rfl rfl (ql_callM (args := [.lst ((clu s).map str), .lst ((clu s).map str)]) rfl (by simp +decide only [go_sem] <;> rfl) (by simp +decide only [go_sem, List.map, LendL]; exact ⟨.ownM rfl rfl fun x _ => Pu_str x, .pu (Pu_strs _)⟩) (.base _) i9) ?_
  refine goB ?_
  refine gcallA (i := fun hg => (i10 (by omega) (by omega))) (hr := ?_)
  refine goB ?_
  refine gcallA (i := fun hg => i0) (hr := ?_)
  refine goB ?_
  exact Ret.bool rfl (by simp)
theorem agg45' : aggTy Tryd.prog 45 = some false := by kernel_rfl
theorem agg46' : aggTy Tryd.prog 46 = some false := by kernel_rfl
theorem shU46 {a : AV} (h : ShV Tryd.prog 46 a) : ∃ n : Int, a = u16 n ∧ 0 ≤ n ∧ n ≤ 65535 := by
  unfold ShV at h
  obtain ⟨fuel, q, h, hn, e⟩ := h
  cases fuel with
  | zero => exact h.elim
  | succ f =>
    simp only [Sh, Tryd.underlying46] at h
    obtain ⟨n, rfl, h1, h2⟩ := h
    exact ⟨n, by rw [e, agg46']; rfl, h1, h2⟩
theorem allU {f : Nat} {ps : List (List AV)} (h : ∀ p ∈ ps, p.length = Tryd.prog.cellsOf 46 ∧ Sh Tryd.prog f 46 p) : ∃ l : List Int, ps.map (mkEl (aggTy Tryd.prog 46 == some true)) = l.map u16 ∧ ∀ n ∈ l, 0 ≤ n ∧ n ≤ 65535 := by
  induction ps with
  | nil => exact ⟨[], rfl, fun n h => by cases h⟩
  | cons p ps ih =>
    obtain ⟨l, hl, hr⟩ := ih fun q hq => h q (by simp [hq])
    obtain ⟨n, hn, h1⟩ := shU46 ⟨f, p, (h p (by simp)).2, (h p (by simp)).1, rfl⟩
    refine ⟨n :: l, by rw [List.map_cons, List.map_cons, hl, hn], fun m hm => ?_⟩
    rcases List.mem_cons.1 hm with rfl | hm
    · exact h1
    · exact hr m hm
theorem shL45 {a : AV} (h : ShV Tryd.prog 45 a) : ∃ l : List Int, a = .lst (l.map u16) ∧ l.length ≤ maxLen ∧ ∀ n ∈ l, 0 ≤ n ∧ n ≤ 65535 := by
  unfold ShV at h
  obtain ⟨fuel, q, h, hn, e⟩ := h
  cases fuel with
  | zero => exact h.elim
  | succ f =>
    simp only [Sh, Tryd.underlying45] at h
    obtain ⟨parts, rfl, hl, h⟩ := h
    obtain ⟨l, h1, h2⟩ := allU h
    have : parts.length = l.length := by have := congrArg List.length h1; simpa using this
    exact ⟨l, by rw [e, h1, agg45']; rfl, by omega, h2⟩
end Go.Ab
