/- Part of the proof. -/
import Derived.Test.YtdgfgadmcahnlaaDoorBU24
import Derived.Test.YtdgfgadmcahnlaaDoorSG24
set_option linter.unusedSimpArgs false
set_option linter.unusedVariables false
set_option maxHeartbeats 4000000
namespace Go.Ab
open Go Go.Ab Go.Proofs Go.Ab.Ty

/-! ### Encode -/
def encT (l : List Int) : ByteArray × Int := if ∀ c ∈ l, Utf8.valid c = true then (if (encS l).size ≤ 400 then (encS l, 0) else (⟨#[]⟩, 2)) else (⟨#[]⟩, 1)
theorem valid_i (c : Int) : Utf8.valid c = true ↔ ¬ (c < 0 ∨ 1114111 < c ∨ (55296 ≤ c ∧ c ≤ 57343)) := by
  simp [Utf8.valid]; omega
theorem encS_le (l : List Int) (k : Nat) : (encS (l.take k)).size ≤ (encS l).size := by
  have := encS_app (l.take k) (l.drop k)
  rw [List.take_append_drop] at this
  rw [this, ByteArray.size_append]; omega
theorem encS_sk (l : List Int) {k : Nat} (h : k < l.length) : encS (l.take (k + 1)) = encS (l.take k) ++ Utf8.encode l[k] := by
  rw [List.take_succ_eq_append_getElem h, encS_app, encS_one]
theorem valid_nat {c : Int} (h : Utf8.valid c = true) : ∃ n : Nat, c = n := ⟨c.toNat, by have := (valid_i c).1 h; omega⟩
theorem bal (x : ByteArray) : x.data.toList.length = x.size := by cases x; simp [ByteArray.size]
theorem bam (x : ByteArray) : (⟨x.data.toList.toArray⟩ : ByteArray) = x := by cases x; simp
theorem baa (x y : ByteArray) : x.data.toList ++ y.data.toList = (x ++ y).data.toList := by simp
theorem encode_ok (l : List Int) (hl : l.length ≤ 1000) : Fn Tryd.prog 59 [.lst (l.map AV.int)] (.tup [str (encT l).1, .int (encT l).2]) := by
  have hT : encT l = if ∀ c ∈ l, Utf8.valid c = true then (if (encS l).size ≤ 400 then (encS l, 0) else (⟨#[]⟩, 2)) else (⟨#[]⟩, 1) := rfl
  have hle := encS_le l
  have hz := fun k hk => encS_size l k hk
  generalize encT l = T at *
  refine Fn.intro' [(0, .lst (l.map AV.int))] 1 43 Tryd.func59 (by kernel_rfl) rfl rfl rfl rfl rfl ?_
  refine goB ?_
  refine keA [0, 9, 10, 11] ?_
  refine AWp.loopP (J := fun k : Nat => k ≤ l.length ∧ ∀ c ∈ l.take k, Utf8.valid c = true) (fun k => [(11, .int k)]) (fun k => l.length - k) 0 ⟨Nat.zero_le _, by simp⟩ .wk ?_
  rintro k ⟨hk, hv⟩
  refine goB ?_
  refine ifA (fun h => ?_) (fun h => ?_)
  · have h := of_decide_eq_true h
    have hk2 : k < l.length := by omega
    have hg : nth 0 l (k : Int) = l[k] := nth_eq hk2
    refine goB ?_
    rw [hg]
    refine goB ?_
    refine ifA (fun h2 => ?_) (fun h2 => ?_)
    · have hb : ¬ Utf8.valid l[k] = true := by
        rw [valid_i]
        simp at h2
        omega
      rw [if_neg (fun hh => hb (hh _ (List.getElem_mem hk2)))] at hT
      rw [hT]
      refine goB ?_
      exact Ret.data rfl rfl (Pu_t2s _ _)
    have hb : Utf8.valid l[k] = true := by
      rw [valid_i]
      simp at h2
      omega
    refine goB ?_
    rw [wrap_succ (by omega)]
    refine ⟨k + 1, ⟨by omega, fun c hc => ?_⟩, by omega, .wk⟩
    rw [List.take_succ_eq_append_getElem hk2, List.mem_append, List.mem_singleton] at hc
    rcases hc with hc | rfl
    · exact hv c hc
    · exact hb
  have h := of_decide_eq_false h
  obtain rfl : k = l.length := by omega
  rw [List.take_length] at hv
  rw [if_pos hv] at hT
  refine goB ?_
  refine keA [0, 6, 30, 31, 32] ?_
  refine AWp.weaken (Wk.bld (H1 := []) 84 5 (fun _ h => by cases h) (E2 := [(0, .lst (l.map AV.int)), (6, .ptr 0 1 0 0), (30, .lst (l.map AV.int)), (31, .int l.length), (32, .int 0)]) ?_) ?_
  · simp +decide only [NilE, lk, if_true, if_false]
    exact ⟨.pu (Pu_intL _), .ptr, .pu (Pu_intL _), .pu (.base _), .pu (.base _), trivial⟩
  refine AWp.loopH (J := fun k : Nat => k ≤ l.length ∧ (encS (l.take k)).size ≤ 400) (fun k => [(32, .int k)]) (fun k => [bldS 84 (pA (decide (0 < k)) 0) 1 (encS (l.take k)).data.toList.length, bldB 5 (encS (l.take k)).data.toList]) (fun k => l.length - k) 0 ⟨Nat.zero_le _, by simp [encS]⟩ (.env2 (by rfl) (by simp +decide only [go_sem])) ?_
  rintro k ⟨hk, hs⟩
  refine goB ?_
  refine ifA (fun h2 => ?_) (fun h2 => ?_)
  · have h2 := of_decide_eq_true h2
    have hk2 : k < l.length := by omega
    have hg : nth 0 l (k : Int) = l[k] := nth_eq hk2
    have hvk := hv _ (List.getElem_mem hk2)
    obtain ⟨c, hc⟩ := valid_nat hvk
    have hx := encS_sk l hk2
    have hle := hle (k + 1)
    rw [hc] at hg hvk hx
    have hcb := (val_iff c).1 hvk
    have i1 := writeRune_ok (decide (0 < k)) c hvk (encS (l.take k)).data.toList (by rw [bal]; omega)
    rw [baa, ← hx] at i1
    have i2 := blen_ok true (encS (l.take (k + 1))).data.toList
    refine goB ?_
    rw [hg]
    refine goB ?_
    rw [wrap32 (show c < 2147483648 by omega)]
    refine ARun.p1 rfl rfl (pl_callBld i1 rfl rfl (by decide) (PuB_bld _ _) (PuB_bld _ _) rfl rfl rfl rfl rfl (by simp) (.tup (by simp))) ?_
    refine goB ?_
    refine ARun.p1 rfl rfl (pl_callBld i2 rfl rfl (by decide) (PuB_bld _ _) (PuB_bld _ _) rfl rfl rfl rfl rfl (by simp) (.base _)) ?_
    refine goB ?_
    have hd : decide (0 < k + 1) = true := decide_eq_true (by omega)
    refine ifA (fun h3 => ?_) (fun h3 => ?_)
    · simp only [bal] at h3
      simp at h3
      rw [if_neg (by omega)] at hT
      rw [hT]
      refine goB ?_
      exact Ret.data rfl rfl (Pu_t2s _ _)
    · simp only [bal] at h3
      simp at h3
      refine goB ?_
      rw [wrap_succ (by omega)]
      exact ⟨k + 1, ⟨by omega, by omega⟩, by omega, .env2 (by rw [hd]; rfl) (by simp +decide only [go_sem])⟩
  have h2 := of_decide_eq_false h2
  obtain rfl : k = l.length := by omega
  rw [List.take_length] at hs ⊢
  rw [if_pos hs] at hT
  have i3 := bstr_ok (decide (0 < l.length)) (encS l).data.toList (by rw [bal]; exact Nat.le_trans hs (by decide))
  rw [bam] at i3
  refine goB ?_
  refine ARun.p1 rfl rfl (pl_callBld i3 rfl rfl (by decide) (PuB_bld _ _) (by split <;> first | exact PuB_bld _ _ | exact PuB_frz _) rfl rfl rfl rfl rfl (by simp) (.base _)) ?_
  rw [hT]
  refine goB ?_
  exact Ret.data rfl rfl (Pu_t2s _ _)
theorem refEncode_ok (l : List Int) (hl : l.length ≤ 1000) : Fn Tryd.prog 60 [.lst (l.map AV.int)] (.tup [str (encT l).1, .int (encT l).2]) := by
  have hT : encT l = if ∀ c ∈ l, Utf8.valid c = true then (if (encS l).size ≤ 400 then (encS l, 0) else (⟨#[]⟩, 2)) else (⟨#[]⟩, 1) := rfl
  have hle := encS_le l
  have hz := fun k hk => encS_size l k hk
  have i2 := fun h => joined_ok l (by omega) h
  generalize encT l = T at *
  refine Fn.intro' [(0, .lst (l.map AV.int))] 1 57 Tryd.func60 (by kernel_rfl) rfl rfl rfl rfl rfl ?_
  refine goB ?_
  refine AWp.loopP (J := fun k : Nat => k ≤ l.length ∧ ∀ c ∈ l.take k, Utf8.valid c = true) (fun k => [(4, .int k)]) (fun k => l.length - k) 0 ⟨Nat.zero_le _, by simp⟩ .wk ?_
  rintro k ⟨hk, hv⟩
  refine goB ?_
  refine ifA (fun h => ?_) (fun h => ?_)
  · have h := of_decide_eq_true h
    have hk2 : k < l.length := by omega
    have hg : nth 0 l (k : Int) = l[k] := nth_eq hk2
    refine goB ?_
    rw [hg]
    refine goB ?_
    refine gqA (h := fun hg => ql_idxI (l := l) (by simp +decide only [go_sem] <;> rfl) (by simp +decide only [go_sem] <;> rfl) Tryd.underlying37 (by omega) (by simp; omega) (by kernel_rfl)) (hr := ?_)
    refine goB ?_
    rw [hg]
    refine gqA (h := fun hg => ql_idxI (l := l) (by simp +decide only [go_sem] <;> rfl) (by simp +decide only [go_sem] <;> rfl) Tryd.underlying37 (by omega) (by simp; omega) (by kernel_rfl)) (hr := ?_)
    refine goB ?_
    rw [hg]
    refine gqA (h := fun hg => ql_idxI (l := l) (by simp +decide only [go_sem] <;> rfl) (by simp +decide only [go_sem] <;> rfl) Tryd.underlying37 (by omega) (by simp; omega) (by kernel_rfl)) (hr := ?_)
    refine goB ?_
    rw [hg]
    refine ifA (fun h2 => ?_) (fun h2 => ?_)
    · have hb : ¬ Utf8.valid l[k] = true := by
        rw [valid_i]
        simp at h2
        omega
      rw [if_neg (fun hh => hb (hh _ (List.getElem_mem hk2)))] at hT
      rw [hT]
      refine goB ?_
      exact Ret.data rfl rfl (Pu_t2s _ _)
    have hb : Utf8.valid l[k] = true := by
      rw [valid_i]
      simp at h2
      omega
    refine goB ?_
    rw [wrap_succ (by omega)]
    refine ⟨k + 1, ⟨by omega, fun c hc => ?_⟩, by omega, .wk⟩
    rw [List.take_succ_eq_append_getElem hk2, List.mem_append, List.mem_singleton] at hc
    rcases hc with hc | rfl
    · exact hv c hc
    · exact hb
  have h := of_decide_eq_false h
  obtain rfl : k = l.length := by omega
  rw [List.take_length] at hv
  rw [if_pos hv] at hT
  refine goB ?_
  refine keA [0, 5, 6] ?_
  refine AWp.loopP (J := fun k : Nat => k ≤ l.length ∧ (encS (l.take k)).size ≤ 400) (fun k => [(5, .int (encS (l.take k)).size), (6, .int k)]) (fun k => l.length - k) 0 ⟨Nat.zero_le _, by simp [encS]⟩ .wk ?_
  rintro k ⟨hk, hs⟩
  refine goB ?_
  refine ifA (fun h2 => ?_) (fun h2 => ?_)
  · have h2 := of_decide_eq_true h2
    have hk2 : k < l.length := by omega
    have hg : nth 0 l (k : Int) = l[k] := nth_eq hk2
    have hvk := hv _ (List.getElem_mem hk2)
    obtain ⟨c, hc⟩ := valid_nat hvk
    have hx := encS_sk l hk2
    have hle := hle (k + 1)
    rw [hc] at hg hvk hx
    have hcb := (val_iff c).1 hvk
    have i1 := bytes_ok c (by omega) hvk
    have hsz := enc_size (c : Int)
    have hxs := congrArg ByteArray.size hx
    rw [ByteArray.size_append] at hxs
    refine goB ?_
    rw [hg]
    refine callA (i1) ?_
    refine goB ?_
    rw [wrap_id (by omega) (by omega), show ((encS (l.take k)).size : Int) + (Utf8.encode (c : Int)).size = (encS (l.take (k + 1))).size by omega]
    refine ifA (fun h3 => ?_) (fun h3 => ?_)
    · simp at h3
      rw [if_neg (by omega)] at hT
      rw [hT]
      refine goB ?_
      exact Ret.data rfl rfl (Pu_t2s _ _)
    · simp at h3
      refine goB ?_
      rw [wrap_succ (by omega)]
      exact ⟨k + 1, ⟨by omega, by omega⟩, by omega, .wk⟩
  have h2 := of_decide_eq_false h2
  obtain rfl : k = l.length := by omega
  rw [List.take_length] at hs ⊢
  rw [if_pos hs] at hT
  rw [hT]
  refine goB ?_
  refine callA ((i2 hv)) ?_
  refine goB ?_
  exact Ret.data rfl rfl (Pu_t2s _ _)
theorem encodes_law (l : List Int) : FnM Tryd.prog mm24 15 [.lst (l.map AV.int)] (.bool true) := by
  have i0 := awake_ok
  have i1 := encode_ok l
  have i2 := refEncode_ok l
  generalize encT l = T at *
  refine FnM.intro' [(0, .lst (l.map AV.int))] 1 32 Tryd.func15 (by kernel_rfl) rfl rfl rfl rfl rfl ?_
  refine goB ?_
  refine ifA (fun h => ?_) (fun h => ?_)
  · refine goB ?_
    refine callA (i0) ?_
    refine goB ?_
    exact Ret.bool rfl (by simp)
  simp at h
  refine goB ?_
  refine callA ((i1 (by omega))) ?_
  refine goB ?_
  refine callA ((i2 (by omega))) ?_
  refine goB ?_
  refine gcallA (i := fun hg => i0) (hr := ?_)
  refine goB ?_
  exact Ret.bool rfl (by simp)
theorem back_law (s : ByteArray) : FnM Tryd.prog mm24 18 [str s] (.bool true) := by
  have i0 := awake_ok
  have i1 := decode_ok s
  have i2 := clustersX_ok s
  have i4 := joinE_ok (clu s)
  rw [cat_clu] at i4
  have hD : ∀ h : errF s = 0, decE s = riL s (nch s) := fun h => by rw [decE, if_pos h]
  have hC : ∀ h : errF s = 0, cluE s = clu s := fun h => by rw [cluE, if_pos h]
  refine FnM.intro' [(0, str s)] 1 58 Tryd.func18 (by kernel_rfl) rfl rfl rfl rfl rfl ?_
  refine goB ?_
  refine callA (i1) ?_
  refine goB ?_
  refine callA (i2) ?_
  refine goB ?_
  rw [show (errF s != errF s) = false by simp]
  refine ifF ?_
  refine goB ?_
  refine ifA (fun h => ?_) (fun h => ?_)
  · refine goB ?_
    refine callA (i0) ?_
    refine goB ?_
    exact Ret.bool rfl Iff.rfl
  simp at h
  have hsz := (errF_sz h).1
  have hv := (errF_sz h).2
  have hn := nch_le s
  have hl := clu_len s
  have hm := mks_len s
  have i3 := encode_ok (riL s (nch s)) (by simp [riL]; omega)
  have hT : encT (riL s (nch s)) = (s, 0) := by
    rw [encT, if_pos (riL_valid s _), enc_all hv, if_pos hsz]
  rw [hT] at i3
  have hpos := fun x hx => (clu_v hv (x := x) hx).2.2
  rw [hD h, hC h]
  generalize clu s = L at *
  generalize riL s (nch s) = R at *
  refine goB ?_
  refine callA (i3) ?_
  refine goB ?_
  refine keA [0, 5, 7, 8, 9, 1000000] ?_
  refine AWp.loopP (J := fun k : Nat => k ≤ L.length) (fun k => [(9, .int k)]) (fun k => L.length - k) 0 (Nat.zero_le _) .wk ?_
  intro k hk
  refine goB ?_
  refine ifA (fun h2 => ?_) (fun h2 => ?_)
  · have h2 := of_decide_eq_true h2
    have hk2 : k < L.length := by omega
    have hg : nth default L (k : Int) = L[k] := nth_eq hk2
    have hp := hpos _ (List.getElem_mem hk2)
    refine goB ?_
    rw [hg]
    refine ifA (fun h3 => ?_) (fun h3 => ?_)
    · exfalso
      have := of_decide_eq_true h3
      omega
    refine goB ?_
    rw [wrap_succ (by omega)]
    exact ⟨k + 1, by omega, by omega, .wk⟩
  refine goB ?_
  refine gcallA (i := fun hg => (i4 (by omega) (by omega))) (hr := ?_)
  refine goB ?_
  refine gcallA (i := fun hg => i0) (hr := ?_)
  refine goB ?_
  exact Ret.bool rfl (by simp)
end Go.Ab
