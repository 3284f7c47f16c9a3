/- Part of the proof. -/
import Derived.Test.YtjfahhbobiiphaaXY
import Derived.Test.YtjfahhbobiiphaaAbJ
set_option linter.unusedSimpArgs false
set_option linter.unusedVariables false
set_option maxHeartbeats 4000000
namespace Go.Ab
open Go Go.Ab Go.Proofs Go.Ab.Ty

/-! ### the document's text of an expression -/
theorem bsL_ext (s : ByteArray) {k : Nat} (h : k < s.size) : s.extract k (k + 1) = bsL [s[k]] := by
  have hl : k < s.data.toList.length := by rw [Array.length_toList]; exact h
  apply ByteArray.ext
  apply Array.toList_inj.1
  rw [ByteArray.data_extract]
  simp only [Array.toList_extract, List.extract, show k + 1 - k = 1 by omega]
  rw [List.drop_eq_getElem_cons hl]
  rfl
theorem refEscaped_ok (s sp : ByteArray) (hs : s.size ≤ 100000) (hsp : sp.size ≤ maxLen) : Fn Try.prog 103 [str s, str sp] (str (bsL (escB sp.data.toList s.data.toList))) := by
  have hsl : s.data.toList.length = s.size := by rw [Array.length_toList]; rfl
  refine Fn.intro' [(0, str s), (1, str sp)] 2 28 Try.func103 (by kernel_rfl) rfl rfl rfl rfl rfl ?_
  refine goB ?_
  refine keA [0, 1, 5, 6] ?_
  refine AWp.loopP (J := fun k : Nat => k ≤ s.size) (fun k => [(5, str (bsL (escB sp.data.toList (s.data.toList.take k)))), (6, .int k)]) (fun k => s.size - k) 0 (Nat.zero_le _) (.env' (by simp +decide only [go_sem]; exact Le.refl _)) ?_
  intro k hk
  have hlk := escB_len sp.data.toList (s.data.toList.take k)
  have hlt : (s.data.toList.take k).length = k := by simp; omega
  refine goB ?_
  refine ifA (fun hd => ?_) (fun hd => ?_)
  · have hd : k < s.size := by have := of_decide_eq_true hd; omega
    have hT := escB_take (sp := sp.data.toList) (l := s.data.toList) (k := k) (by omega)
    have hget : s.data.toList[k]'(by omega) = s[k] := by simp; rfl
    rw [hget] at hT
    have i1 := has_ok hsp s[k]
    have hix := isIn_mem sp s[k]
    have hex := bsL_ext s hd
    generalize escB sp.data.toList (s.data.toList.take k) = A at *
    refine goB ?_
    refine ARun.q1 rfl rfl (ql_index_str rfl rfl Try.underlying9 (by omega) (bs_get (i := k) (by omega))) ?_
    refine goB ?_
    refine callA (i1) ?_
    refine goB ?_
    refine ifA (fun hc => ?_) (fun hc => ?_)
    · have hc := hix.1 (by simpa using hc)
      rw [if_pos hc] at hT
      refine goB ?_
      refine ARun.q1 rfl rfl (ql_addStr (a := bsL A) (b := bsL [92]) rfl rfl (by rw [bsL_size, bsL_size]; simp; omega)) ?_
      rw [bsL_app]
      refine goB ?_
      rw [wrap_succ (by omega)]
      refine ARun.q1 rfl rfl (ql_slice_str (l := k) (h := k + 1) rfl Try.underlying9 (by simp [bnd, lk, go_sem]) (by simp [bnd, lk, go_sem]; omega) (by omega) (by omega)) ?_
      rw [hex]
      refine ARun.q1 rfl rfl (ql_addStr (a := bsL (A ++ [92])) (b := bsL [s[k]]) rfl rfl (by rw [bsL_size, bsL_size]; simp; omega)) ?_
      rw [bsL_app, List.append_assoc, show [92] ++ [s[k]] = [92, s[k]] from rfl, ← hT]
      refine goB ?_
      rw [wrap_succ (by omega)]
      exact ⟨k + 1, by omega, by omega, .wk⟩
    · have hc : s[k] ∉ sp.data.toList := fun h => by have := hix.2 h; simp [this] at hc
      rw [if_neg hc] at hT
      refine goB ?_
      rw [wrap_succ (by omega)]
      refine ARun.q1 rfl rfl (ql_slice_str (l := k) (h := k + 1) rfl Try.underlying9 (by simp [bnd, lk, go_sem]) (by simp [bnd, lk, go_sem]; omega) (by omega) (by omega)) ?_
      rw [hex]
      refine ARun.q1 rfl rfl (ql_addStr (a := bsL A) (b := bsL [s[k]]) rfl rfl (by rw [bsL_size, bsL_size]; simp; omega)) ?_
      rw [bsL_app, ← hT]
      refine goB ?_
      rw [wrap_succ (by omega)]
      exact ⟨k + 1, by omega, by omega, .wk⟩
  have hd := of_decide_eq_false hd
  obtain rfl : k = s.size := by omega
  rw [show s.data.toList.take s.size = s.data.toList by rw [← hsl, List.take_length]]
  refine goB ?_
  exact Ret.data rfl rfl (.base _)
theorem within_ok (op : Int) (x : Rx) (h : x.wf) (hc : x.cnt ≤ 1000) (i1 : Fn Try.prog 76 [encX x] (str (bsL (txt x)))) : Fn Try.prog 104 [encX x, .int op] (str (bsL (sbx op x))) := by
  have hlen := txt_len x h
  have hS : wrp op x.op = true → sbx op x = 40 :: (txt x ++ [41]) := fun h => by rw [sbx, if_pos h]
  have hN : wrp op x.op = false → sbx op x = txt x := fun h => by rw [sbx, if_neg (by rw [h]; simp)]
  generalize hT : txt x = T at *
  generalize sbx op x = R at *
  obtain ⟨o, s, l⟩ := x
  have hW : wrp op (Rx.mk o s l).op = decide (o = 5 ∨ o = 7 ∨ o = 4 ∨ (op = 6 ∧ (o = 8 ∨ o = 6)) ∨ (op = 4 ∧ o = 8)) := rfl
  rw [hW] at hS hN
  rw [encX_mk] at i1 ⊢
  refine Fn.intro' [(0, .agg [.int o, str s, .lst (l.map encX)]), (1, .int op)] 2 50 Try.func104 (by kernel_rfl) rfl rfl rfl rfl rfl ?_
  have hsz := bsL_size T
  have hE : decide (o = 5 ∨ o = 7 ∨ o = 4 ∨ (op = 6 ∧ (o = 8 ∨ o = 6)) ∨ (op = 4 ∧ o = 8)) = (bif bif bif bif decide (o = 5) then true else decide (o = 7) then true else decide (o = 4) then true
      else bif decide (op = 6) then bif decide (o = 8) then true else decide (o = 6) else false then true else bif decide (op = 4) then decide (o = 8) else false) := by
    rw [Bool.eq_iff_iff]
    simp only [Bool.cond_eq_ite, Bool.if_true_left, Bool.if_false_right, Bool.or_eq_true, Bool.and_eq_true, decide_eq_true_eq]
    omega
  refine goB ?_
  refine ifA (fun h1 => ?_) (fun h1 => ?_)
  · have hR : R = 40 :: (T ++ [41]) := hS (by
      rw [← h1, hE])
    rw [hR]
    refine goB ?_
    refine callA (i1) ?_
    refine ARun.q1 rfl rfl (ql_addStr (a := bsL [40]) (b := bsL T) rfl rfl (by rw [bsL_size, bsL_size]; simp; omega)) ?_
    rw [bsL_app]
    refine ARun.q1 rfl rfl (ql_addStr (a := bsL ([40] ++ T)) (b := bsL [41]) rfl rfl (by rw [bsL_size, bsL_size]; simp; omega)) ?_
    rw [bsL_app, show ([40] ++ T) ++ [41] = 40 :: (T ++ [41]) by simp]
    refine goB ?_
    exact Ret.data rfl rfl (.base _)
  · have hR : R = T := hN (by
      rw [← h1, hE])
    rw [hR]
    refine goB ?_
    refine callA (i1) ?_
    refine goB ?_
    exact Ret.data rfl rfl (.base _)
theorem join_snoc (sep : List UInt8) : ∀ (A : List (List UInt8)) (x : List UInt8), A ≠ [] → Lib.join (A ++ [x]) sep = Lib.join A sep ++ sep ++ x
  | [], x, h => absurd rfl h
  | [a], x, _ => by simp [Lib.join, List.intercalate_cons_cons]
  | a :: b :: A, x, _ => by
    have := join_snoc sep (b :: A) x (by simp)
    simp only [Lib.join, List.cons_append, List.intercalate_cons_cons] at this ⊢
    rw [this]; simp
theorem join_take {sep : List UInt8} {L : List (List UInt8)} {k : Nat} (h : k < L.length) : Lib.join (L.take (k + 1)) sep = (if 0 < k then Lib.join (L.take k) sep ++ sep else []) ++ L[k] := by
  rw [List.take_succ_eq_append_getElem h]
  split
  · rename_i hk
    rw [join_snoc sep _ _ (by intro e; have := congrArg List.length e; rw [List.length_take, List.length_nil] at this; omega)]
  · rename_i hk
    obtain rfl : k = 0 := by omega
    simp [Lib.join]
theorem join_take_len (sep : List UInt8) (h1 : sep.length ≤ 1) (L : List (List UInt8)) (k : Nat) : (Lib.join (L.take k) sep).length ≤ (L.map fun x => x.length + 1).sum := by
  refine Nat.le_trans (join_len sep h1 _) ?_
  rw [← List.take_append_drop k (L.map fun x => x.length + 1), List.sum_append, List.map_take]
  omega
theorem txs_sum (op : Int) : ∀ l : List Rx, (∀ x ∈ l, x.wf) → ((txs op l).map fun x => x.length + 1).sum ≤ 140 * cnts l + 3 * l.length
  | [], _ => by simp [txs, cnts]
  | x :: l, h => by
    have h1 := txs_sum op l fun y hy => h y (by simp [hy])
    have h2 := sbx_len op x (h x (by simp))
    rw [txs_map] at h1 ⊢
    simp only [List.map_cons, List.sum_cons, cnts, List.length_cons] at h1 ⊢
    omega
theorem spelled_ok (r : Rx) (h : r.wf) (hc : r.cnt ≤ 1000) : Fn Try.prog 76 [encX r] (str (bsL (txt r))) := by
  induction r using Rx.ind with
  | h o s l ih =>
  obtain ⟨hno, hl⟩ := wf_sub.1 h
  have hcx := cnt_mk o s l
  have htl := txt_len _ h
  have ih := fun x hx => within_ok o x (hl x hx) (by have := cnts_mem hx; omega) (ih x hx (hl x hx) (by have := cnts_mem hx; omega))
  have hR : txt (.mk o s l) = txt (.mk o s l) := rfl
  conv at hR => rhs; rw [txt]
  have hlen := lenL_cnts l
  have hs1 : s.size ≤ 100000 → Fn Try.prog 103 [str s, str ⟨#[92, 40, 41, 91, 93, 124, 38, 42, 33]⟩] (str (bsL (escB spL s.data.toList))) := fun hs => refEscaped_ok s ⟨#[92, 40, 41, 91, 93, 124, 38, 42, 33]⟩ hs (by decide)
  have hs2 : s.size ≤ 100000 → Fn Try.prog 103 [str s, str ⟨#[92, 91, 93]⟩] (str (bsL (escB [92, 91, 93] s.data.toList))) := fun hs => refEscaped_ok s ⟨#[92, 91, 93]⟩ hs (by decide)
  rw [encX_mk]
  refine Fn.intro' [(0, .agg [.int o, str s, .lst (l.map encX)])] 1 75 Try.func76 (by kernel_rfl) rfl rfl rfl rfl rfl ?_
  unfold nodeOk at hno
  by_cases h3 : o = 3
  · subst h3
    rw [if_pos rfl] at hno
    rw [if_neg (by omega), if_neg (by omega), if_pos rfl] at hR
    rw [hR]
    refine goB ?_
    refine iff_ ?_
    refine goB ?_
    refine iff_ ?_
    refine goB ?_
    refine ift_ ?_
    refine goB ?_
    refine ifA (fun h1 => ?_) (fun h1 => ?_)
    · have h1 : s.size = 1 := by have := of_decide_eq_true h1; omega
      rw [if_pos h1]
      refine goB ?_
      refine callA ((hs1 (by omega))) ?_
      refine goB ?_
      exact Ret.data rfl rfl (.base _)
    · have h1 : ¬ s.size = 1 := fun e => (of_decide_eq_false h1) (by omega)
      rw [if_neg h1]
      have hel := escB_len [92, 91, 93] s.data.toList
      have hsl : s.data.toList.length = s.size := by rw [Array.length_toList]; rfl
      refine goB ?_
      refine callA ((hs2 (by omega))) ?_
      generalize escB [92, 91, 93] s.data.toList = E at *
      refine ARun.q1 rfl rfl (ql_addStr (a := bsL [91]) (b := bsL E) rfl rfl (by rw [bsL_size, bsL_size]; simp; omega)) ?_
      rw [bsL_app]
      refine ARun.q1 rfl rfl (ql_addStr (a := bsL ([91] ++ E)) (b := bsL [93]) rfl rfl (by rw [bsL_size, bsL_size]; simp; omega)) ?_
      rw [bsL_app, show ([91] ++ E) ++ [93] = 91 :: (E ++ [93]) by simp]
      refine goB ?_
      exact Ret.data rfl rfl (.base _)
  rw [if_neg h3] at hno
  have hl8 : l.length ≤ 8 := by omega
  rcases hno.2 with ⟨h1 | h1, h2⟩ | ⟨h1 | h1 | h1, h2, h28⟩ | ⟨h1 | h1, h2⟩
  · subst h1
    rw [if_pos rfl] at hR
    rw [hR]
    refine goB ?_
    refine ift_ ?_
    refine goB ?_
    exact Ret.data rfl rfl (.base _)
  · subst h1
    rw [if_neg (by omega), if_pos rfl] at hR
    rw [hR]
    refine goB ?_
    refine iff_ ?_
    refine goB ?_
    refine ift_ ?_
    refine goB ?_
    exact Ret.data rfl rfl (.base _)
  · subst h1
    rw [if_neg (by omega), if_neg (by omega), if_neg (by omega), if_neg (by omega), if_neg (by omega), if_neg (by omega), if_neg (by omega)] at hR
    rw [hR]
    have hsm := txs_sum 4 l hl
    have hTn : (txs 4 l).length = l.length := by rw [txs_map, List.length_map]
    have hjl := join_take_len [] (by simp) (txs 4 l)
    have hjt : ∀ k (h : k < l.length), Lib.join ((txs 4 l).take (k + 1)) [] = (if 0 < k then Lib.join ((txs 4 l).take k) [] ++ [] else []) ++ sbx 4 l[k] := fun k h => by
      rw [join_take (by omega)]
      simp only [txs_map, List.getElem_map]
    have hT0 : (txs 4 l).take l.length = txs 4 l := List.take_of_length_le (by omega)
    generalize txs 4 l = D at *
    refine goB ?_
    refine iff_ ?_
    refine goB ?_
    refine iff_ ?_
    refine goB ?_
    refine iff_ ?_
    refine goB ?_
    refine iff_ ?_
    refine goB ?_
    refine iff_ ?_
    refine goB ?_
    refine iff_ ?_
    refine goB ?_
    refine iff_ ?_
    refine goB ?_
    refine keA [1, 3, 4, 5] ?_
    refine AWp.loopP (J := fun k : Nat => k ≤ l.length) (fun k => [(4, str (bsL (Lib.join (D.take k) []))), (5, .int k)]) (fun k => l.length - k) 0 (Nat.zero_le _) (.env' (by simp +decide only [go_sem]; exact Le.refl _)) ?_
    intro k hk
    have hjlk := hjl k
    refine goB ?_
    refine ifA (fun hd => ?_) (fun hd => ?_)
    · have hd : k < l.length := by have := of_decide_eq_true hd; omega
      have hjt := hjt k hd
      have hjl2 := hjl (k + 1)
      have i1 := ih _ (List.getElem_mem hd)
      have hsl := sbx_len 4 _ (hl _ (List.getElem_mem hd))
      have hcm := cnts_mem (List.getElem_mem hd)
      rcases hx : l[k] with ⟨o1, s1, l1⟩
      rw [hx] at i1 hjt hsl hcm
      rw [encX_mk] at i1
      generalize sbx 4 (.mk o1 s1 l1) = T at *
      generalize hA : Lib.join (D.take k) [] = A at *
      refine goB ?_
      refine AWp.joinP [(4, str (bsL (if 0 < k then A ++ [] else []))), (60, .bad), (61, .bad), (62, .bad), (63, .bad)] ?_ ?_
      · refine ifA (fun hz => ?_) (fun hz => ?_)
        · have hz : 0 < k := by have := of_decide_eq_true hz; omega
          rw [if_pos hz]
          refine goB ?_
          refine ARun.q1 rfl rfl (ql_addStr (a := bsL A) (b := bsL []) rfl rfl (by rw [bsL_size, bsL_size]; simp; omega)) ?_
          rw [bsL_app]
          refine goB ?_
          exact .wk
        · have hz : ¬ 0 < k := fun e => (of_decide_eq_false hz) (by omega)
          obtain rfl : k = 0 := by omega
          have hA0 : A = [] := by rw [← hA]; rfl
          rw [if_neg hz, hA0]
          refine goB ?_
          exact .wk
      generalize hB : (if 0 < k then A ++ [] else []) = B at *
      rw [hjt, List.length_append] at hjl2
      refine drA (k := 10) follows (hr := ?_)
      refine goA ?_
      refine ARun.q1 rfl rfl (ql_indexAddr_lst rfl rfl Try.underlying22 (by omega) (e := .agg [.int o1, str s1, .lst (l1.map encX)]) (by simp [hd, hx, encX_mk]) (by kernel_rfl)) ?_
      refine goA ?_
      refine callA (i1) ?_
      refine ARun.q1 rfl rfl (ql_addStr (a := bsL B) (b := bsL T) rfl rfl (by rw [bsL_size, bsL_size]; omega)) ?_
      rw [bsL_app, ← hjt]
      refine goB ?_
      rw [wrap_succ (by omega)]
      exact ⟨k + 1, by omega, by omega, .wk⟩
    have hd := of_decide_eq_false hd
    obtain rfl : k = l.length := by omega
    rw [hT0]
    refine goB ?_
    exact Ret.data rfl rfl (.base _)
  · subst h1
    rw [if_neg (by omega), if_neg (by omega), if_neg (by omega), if_pos rfl] at hR
    rw [hR]
    have hsm := txs_sum 5 l hl
    have hTn : (txs 5 l).length = l.length := by rw [txs_map, List.length_map]
    have hjl := join_take_len [124] (by simp) (txs 5 l)
    have hjt : ∀ k (h : k < l.length), Lib.join ((txs 5 l).take (k + 1)) [124] = (if 0 < k then Lib.join ((txs 5 l).take k) [124] ++ [124] else []) ++ sbx 5 l[k] := fun k h => by
      rw [join_take (by omega)]
      simp only [txs_map, List.getElem_map]
    have hT0 : (txs 5 l).take l.length = txs 5 l := List.take_of_length_le (by omega)
    generalize txs 5 l = D at *
    refine goB ?_
    refine iff_ ?_
    refine goB ?_
    refine iff_ ?_
    refine goB ?_
    refine iff_ ?_
    refine goB ?_
    refine iff_ ?_
    refine goB ?_
    refine iff_ ?_
    refine goB ?_
    refine ift_ ?_
    refine goB ?_
    refine iff_ ?_
    refine goB ?_
    refine keA [1, 3, 4, 5] ?_
    refine AWp.loopP (J := fun k : Nat => k ≤ l.length) (fun k => [(4, str (bsL (Lib.join (D.take k) [124]))), (5, .int k)]) (fun k => l.length - k) 0 (Nat.zero_le _) (.env' (by simp +decide only [go_sem]; exact Le.refl _)) ?_
    intro k hk
    have hjlk := hjl k
    refine goB ?_
    refine ifA (fun hd => ?_) (fun hd => ?_)
    · have hd : k < l.length := by have := of_decide_eq_true hd; omega
      have hjt := hjt k hd
      have hjl2 := hjl (k + 1)
      have i1 := ih _ (List.getElem_mem hd)
      have hsl := sbx_len 5 _ (hl _ (List.getElem_mem hd))
      have hcm := cnts_mem (List.getElem_mem hd)
      rcases hx : l[k] with ⟨o1, s1, l1⟩
      rw [hx] at i1 hjt hsl hcm
      rw [encX_mk] at i1
      generalize sbx 5 (.mk o1 s1 l1) = T at *
      generalize hA : Lib.join (D.take k) [124] = A at *
      refine goB ?_
      refine AWp.joinP [(4, str (bsL (if 0 < k then A ++ [124] else []))), (60, .bad), (61, .bad), (62, .bad), (63, .bad)] ?_ ?_
      · refine ifA (fun hz => ?_) (fun hz => ?_)
        · have hz : 0 < k := by have := of_decide_eq_true hz; omega
          rw [if_pos hz]
          refine goB ?_
          refine ARun.q1 rfl rfl (ql_addStr (a := bsL A) (b := bsL [124]) rfl rfl (by rw [bsL_size, bsL_size]; simp; omega)) ?_
          rw [bsL_app]
          refine goB ?_
          exact .wk
        · have hz : ¬ 0 < k := fun e => (of_decide_eq_false hz) (by omega)
          obtain rfl : k = 0 := by omega
          have hA0 : A = [] := by rw [← hA]; rfl
          rw [if_neg hz, hA0]
          refine goB ?_
          exact .wk
      generalize hB : (if 0 < k then A ++ [124] else []) = B at *
      rw [hjt, List.length_append] at hjl2
      refine drA (k := 10) follows (hr := ?_)
      refine goA ?_
      refine ARun.q1 rfl rfl (ql_indexAddr_lst rfl rfl Try.underlying22 (by omega) (e := .agg [.int o1, str s1, .lst (l1.map encX)]) (by simp [hd, hx, encX_mk]) (by kernel_rfl)) ?_
      refine goA ?_
      refine callA (i1) ?_
      refine ARun.q1 rfl rfl (ql_addStr (a := bsL B) (b := bsL T) rfl rfl (by rw [bsL_size, bsL_size]; omega)) ?_
      rw [bsL_app, ← hjt]
      refine goB ?_
      rw [wrap_succ (by omega)]
      exact ⟨k + 1, by omega, by omega, .wk⟩
    have hd := of_decide_eq_false hd
    obtain rfl : k = l.length := by omega
    rw [hT0]
    refine goB ?_
    exact Ret.data rfl rfl (.base _)
  · subst h1
    rw [if_neg (by omega), if_neg (by omega), if_neg (by omega), if_neg (by omega), if_pos rfl] at hR
    rw [hR]
    have hsm := txs_sum 7 l hl
    have hTn : (txs 7 l).length = l.length := by rw [txs_map, List.length_map]
    have hjl := join_take_len [38] (by simp) (txs 7 l)
    have hjt : ∀ k (h : k < l.length), Lib.join ((txs 7 l).take (k + 1)) [38] = (if 0 < k then Lib.join ((txs 7 l).take k) [38] ++ [38] else []) ++ sbx 7 l[k] := fun k h => by
      rw [join_take (by omega)]
      simp only [txs_map, List.getElem_map]
    have hT0 : (txs 7 l).take l.length = txs 7 l := List.take_of_length_le (by omega)
    generalize txs 7 l = D at *
    refine goB ?_
    refine iff_ ?_
    refine goB ?_
    refine iff_ ?_
    refine goB ?_
    refine iff_ ?_
    refine goB ?_
    refine iff_ ?_
    refine goB ?_
    refine iff_ ?_
    refine goB ?_
    refine iff_ ?_
    refine goB ?_
    refine ift_ ?_
    refine goB ?_
    refine keA [1, 3, 4, 5] ?_
    refine AWp.loopP (J := fun k : Nat => k ≤ l.length) (fun k => [(4, str (bsL (Lib.join (D.take k) [38]))), (5, .int k)]) (fun k => l.length - k) 0 (Nat.zero_le _) (.env' (by simp +decide only [go_sem]; exact Le.refl _)) ?_
    intro k hk
    have hjlk := hjl k
    refine goB ?_
    refine ifA (fun hd => ?_) (fun hd => ?_)
    · have hd : k < l.length := by have := of_decide_eq_true hd; omega
      have hjt := hjt k hd
      have hjl2 := hjl (k + 1)
      have i1 := ih _ (List.getElem_mem hd)
      have hsl := sbx_len 7 _ (hl _ (List.getElem_mem hd))
      have hcm := cnts_mem (List.getElem_mem hd)
      rcases hx : l[k] with ⟨o1, s1, l1⟩
      rw [hx] at i1 hjt hsl hcm
      rw [encX_mk] at i1
      generalize sbx 7 (.mk o1 s1 l1) = T at *
      generalize hA : Lib.join (D.take k) [38] = A at *
      refine goB ?_
      refine AWp.joinP [(4, str (bsL (if 0 < k then A ++ [38] else []))), (60, .bad), (61, .bad), (62, .bad), (63, .bad)] ?_ ?_
      · refine ifA (fun hz => ?_) (fun hz => ?_)
        · have hz : 0 < k := by have := of_decide_eq_true hz; omega
          rw [if_pos hz]
          refine goB ?_
          refine ARun.q1 rfl rfl (ql_addStr (a := bsL A) (b := bsL [38]) rfl rfl (by rw [bsL_size, bsL_size]; simp; omega)) ?_
          rw [bsL_app]
          refine goB ?_
          exact .wk
        · have hz : ¬ 0 < k := fun e => (of_decide_eq_false hz) (by omega)
          obtain rfl : k = 0 := by omega
          have hA0 : A = [] := by rw [← hA]; rfl
          rw [if_neg hz, hA0]
          refine goB ?_
          exact .wk
      generalize hB : (if 0 < k then A ++ [38] else []) = B at *
      rw [hjt, List.length_append] at hjl2
      refine drA (k := 10) follows (hr := ?_)
      refine goA ?_
      refine ARun.q1 rfl rfl (ql_indexAddr_lst rfl rfl Try.underlying22 (by omega) (e := .agg [.int o1, str s1, .lst (l1.map encX)]) (by simp [hd, hx, encX_mk]) (by kernel_rfl)) ?_
      refine goA ?_
      refine callA (i1) ?_
      refine ARun.q1 rfl rfl (ql_addStr (a := bsL B) (b := bsL T) rfl rfl (by rw [bsL_size, bsL_size]; omega)) ?_
      rw [bsL_app, ← hjt]
      refine goB ?_
      rw [wrap_succ (by omega)]
      exact ⟨k + 1, by omega, by omega, .wk⟩
    have hd := of_decide_eq_false hd
    obtain rfl : k = l.length := by omega
    rw [hT0]
    refine goB ?_
    exact Ret.data rfl rfl (.base _)
  · subst h1
    obtain ⟨x, rfl⟩ := wf1 (wf_sub.1 h).1 (.inl rfl)
    rw [if_neg (by omega), if_neg (by omega), if_neg (by omega), if_neg (by omega), if_neg (by omega), if_pos rfl] at hR
    simp only [txs_map, List.map_cons, List.map_nil, List.headD_cons] at hR
    rw [hR]
    have i1 := ih x (by simp)
    have hsl := sbx_len 6 x (hl x (by simp))
    simp only [cnts] at hcx
    rcases x with ⟨o1, s1, l1⟩
    rw [encX_mk] at i1
    generalize sbx 6 (.mk o1 s1 l1) = T at *
    simp only [List.map_cons, List.map_nil, encX_mk]
    refine goB ?_
    refine iff_ ?_
    refine goB ?_
    refine iff_ ?_
    refine goB ?_
    refine iff_ ?_
    refine goB ?_
    refine iff_ ?_
    refine goB ?_
    refine ift_ ?_
    refine AWp.seq ?_
    refine drA (k := 8) follows (hr := ?_)
    refine goA ?_
    refine ARun.q1 rfl rfl (ql_indexAddr_lst rfl rfl Try.underlying22 (by omega) (e := .agg [.int o1, str s1, .lst (l1.map encX)]) (by rfl) (by kernel_rfl)) ?_
    refine goA ?_
    refine callA (i1) ?_
    refine goA ?_
    refine ARun.q1 rfl rfl (ql_addStr (a := bsL T) (b := bsL [42]) rfl rfl (by rw [bsL_size, bsL_size]; simp; omega)) ?_
    rw [bsL_app]
    refine goB ?_
    exact Ret.data rfl rfl (.base _)
  · subst h1
    obtain ⟨x, rfl⟩ := wf1 (wf_sub.1 h).1 (.inr rfl)
    rw [if_neg (by omega), if_neg (by omega), if_neg (by omega), if_neg (by omega), if_neg (by omega), if_neg (by omega), if_pos rfl] at hR
    simp only [txs_map, List.map_cons, List.map_nil, List.headD_cons] at hR
    rw [hR]
    have i1 := ih x (by simp)
    have hsl := sbx_len 8 x (hl x (by simp))
    simp only [cnts] at hcx
    rcases x with ⟨o1, s1, l1⟩
    rw [encX_mk] at i1
    generalize sbx 8 (.mk o1 s1 l1) = T at *
    simp only [List.map_cons, List.map_nil, encX_mk]
    refine goB ?_
    refine iff_ ?_
    refine goB ?_
    refine iff_ ?_
    refine goB ?_
    refine iff_ ?_
    refine goB ?_
    refine ift_ ?_
    refine AWp.seq ?_
    refine drA (k := 8) follows (hr := ?_)
    refine goA ?_
    refine ARun.q1 rfl rfl (ql_indexAddr_lst rfl rfl Try.underlying22 (by omega) (e := .agg [.int o1, str s1, .lst (l1.map encX)]) (by rfl) (by kernel_rfl)) ?_
    refine goA ?_
    refine callA (i1) ?_
    refine goA ?_
    refine ARun.q1 rfl rfl (ql_addStr (a := bsL [33]) (b := bsL T) rfl rfl (by rw [bsL_size, bsL_size]; simp; omega)) ?_
    rw [bsL_app]
    refine goB ?_
    exact Ret.data rfl rfl (.base _)
theorem refFormat_ok (r : Rx) (hok : r.ok) : Fn Try.prog 39 [encX r] (fmtA r) := by
  have i1 := refValid_ok r hok
  have i2 := fun h : r.valid => spelled_ok r h.2 (by have := h.1.1; omega)
  have hT : r.valid → fmtA r = .tup [str (bsL (txt r)), .int 0] := fun h => if_pos h
  have hF : ¬ r.valid → fmtA r = .tup [str ⟨#[]⟩, .int 4] := fun h => if_neg h
  generalize fmtA r = R at *
  generalize txt r = T at *
  obtain ⟨o, s, l⟩ := r
  rw [encX_mk] at i1 i2 ⊢
  refine Fn.intro' [(0, .agg [.int o, str s, .lst (l.map encX)])] 1 9 Try.func39 (by kernel_rfl) rfl rfl rfl rfl rfl ?_
  refine goB ?_
  refine callA (i1) ?_
  refine goB ?_
  refine ifA (fun h => ?_) (fun h => ?_)
  · have h : ¬ (Rx.mk o s l).valid := by simpa using h
    rw [hF h]
    refine goB ?_
    exact Ret.data rfl rfl (Pu_tup2 (.base _) (.base _))
  have h : (Rx.mk o s l).valid := by simpa using h
  rw [hT h]
  refine goB ?_
  refine callA ((i2 h)) ?_
  refine goB ?_
  exact Ret.data rfl rfl (Pu_tup2 (.base _) (.base _))
end Go.Ab
set_option maxHeartbeats 4000000
namespace Go.Ab
open Go Go.Ab Go.Proofs Go.Ab.Ty

/-! ### the reader (plain) -/
def nx (l : List UInt8) (f : Bool) : UInt8 := if f then 0 else l.headD 0
def tk (c : UInt8) (l : List UInt8) (f : Bool) : Bool × List UInt8 := if f = false ∧ c ≠ 0 ∧ l.head? = some c then (true, l.tail) else (false, l)
def an (l : List UInt8) (f : Bool) : UInt8 × List UInt8 × Bool := if nx l f = 0 then (0, l, true) else (nx l f, l.tail, f)
def setC (l : List UInt8) (f : Bool) : UInt8 × List UInt8 × Bool := if (an l f).1 = 92 then an (an l f).2.1 (an l f).2.2 else an l f
def setF : Nat → List UInt8 → List UInt8 → Bool → List UInt8 × List UInt8 × Bool
  | 0, a, l, f => (a, l, f)
  | n + 1, a, l, f => if f then (a, l, f) else if (tk 93 l f).1 then (a, (tk 93 l f).2, f) else setF n (a ++ [(setC l f).1]) (setC l f).2.1 (setC l f).2.2
def setX (a : List UInt8) : Rx := if a = [] then rxN else .mk 3 (bsL a) []
abbrev PF := List UInt8 → Bool → Rx × List UInt8 × Bool
def badF (op : Int) (l : List UInt8) (f : Bool) : Bool × List UInt8 := if op = 5 then (!(tk 124 l f).1, (tk 124 l f).2) else if op = 7 then (!(tk 38 l f).1, (tk 38 l f).2) else (decide (nx l f = 124 ∨ nx l f = 38), l)
def goes (l : List UInt8) (f : Bool) : Bool := !f && decide (nx l f ≠ 0) && decide (nx l f ≠ 41)
def loopF (P : PF) (op : Int) : Nat → List Rx → List UInt8 → Bool → List Rx × List UInt8 × Bool
  | 0, a, l, f => (a, l, f)
  | n + 1, a, l, f => if goes l f then loopF P op n (a ++ [(P (badF op l f).2 (f || (badF op l f).1)).1]) (P (badF op l f).2 (f || (badF op l f).1)).2.1 (P (badF op l f).2 (f || (badF op l f).1)).2.2 else (a, l, f)
def opF (c : UInt8) : Int := if c = 124 then 5 else if c = 38 then 7 else 4
def exF (P : PF) : PF := fun l f =>
  let p := P l f
  let q := loopF P (opF (nx p.2.1 p.2.2)) (p.2.1.length + 2) [p.1] p.2.1 p.2.2
  (if q.1.length = 1 then p.1 else .mk (opF (nx p.2.1 p.2.2)) ByteArray.empty q.1, q.2)
def atomF (E : PF) : PF := fun l f =>
  let a := an l f
  if a.1 = 40 then (if (tk 41 a.2.1 a.2.2).1 then (rxE, (tk 41 a.2.1 a.2.2).2, a.2.2) else
    let e := E a.2.1 a.2.2
    (e.1, if e.2.2 then e.2.1 else (tk 41 e.2.1 e.2.2).2, e.2.2 || !(tk 41 e.2.1 e.2.2).1))
  else if a.1 = 91 then (setX (setF (a.2.1.length + 2) [] a.2.1 a.2.2).1, (setF (a.2.1.length + 2) [] a.2.1 a.2.2).2)
  else if a.1 = 92 then (.mk 3 (bsL [(an a.2.1 a.2.2).1]) [], (an a.2.1 a.2.2).2)
  else (.mk 3 (bsL [a.1]) [], a.2)
def pcF : Nat → PF
  | 0, l, f => (rx0, l, true)
  | n + 1, l, f => if f then (rx0, l, f) else if (tk 33 l f).1 then (.mk 8 ByteArray.empty [(pcF n (tk 33 l f).2 f).1], (pcF n (tk 33 l f).2 f).2) else
    let o := atomF (exF (pcF n)) l f
    if (tk 42 o.2.1 o.2.2).1 then (.mk 6 ByteArray.empty [o.1], (tk 42 o.2.1 o.2.2).2, o.2.2) else o
/-! #### how far it is -/
def muS (l : List UInt8) (f : Bool) : Nat := if f then 0 else l.length + 1
theorem tk_len (c : UInt8) (l : List UInt8) (f : Bool) : (tk c l f).2.length ≤ l.length ∧ ((tk c l f).1 = true → f = false ∧ (tk c l f).2.length + 1 = l.length) := by
  unfold tk
  split
  · rename_i h
    cases l with
    | nil => simp at h
    | cons x l => simp [h.1]
  · simp
theorem an_len (l : List UInt8) (f : Bool) : (an l f).2.1.length ≤ l.length ∧ ((an l f).2.2 = false → f = false ∧ (an l f).2.1.length + 1 = l.length) := by
  unfold an
  split
  · simp
  · rename_i h
    unfold nx at h
    cases f with
    | true => simp at h
    | false =>
      cases l with
      | nil => simp at h
      | cons x l => simp
theorem setC_len (l : List UInt8) (f : Bool) : (setC l f).2.1.length ≤ l.length ∧ ((setC l f).2.2 = false → f = false ∧ (setC l f).2.1.length + 1 ≤ l.length) := by
  have h1 := an_len l f
  have h2 := an_len (an l f).2.1 (an l f).2.2
  unfold setC
  split
  · exact ⟨by omega, fun h => by
      have h3 := h2.2 h
      have h4 := h1.2 h3.1
      exact ⟨h4.1, by omega⟩⟩
  · exact ⟨h1.1, fun h => ⟨(h1.2 h).1, by have := (h1.2 h).2; omega⟩⟩
theorem setC_mu (l : List UInt8) : muS (setC l false).2.1 (setC l false).2.2 < muS l false := by
  have := setC_len l false
  unfold muS
  split
  · simp
  · rename_i h
    have := this.2 (by simpa using h)
    simp; omega
structure Good (P : PF) : Prop where
  len : ∀ l f, (P l f).2.1.length ≤ l.length
  fail : ∀ l, (P l true).2.2 = true
  go : ∀ l, (P l false).2.2 = false → (P l false).2.1.length + 1 ≤ l.length
theorem setF_len : ∀ n a l f, (setF n a l f).2.1.length ≤ l.length ∧ (f = true → (setF n a l f).2.2 = true)
  | 0, a, l, f => by simp [setF]
  | n + 1, a, l, f => by
    rw [setF]
    split
    · rename_i h; simp [h]
    split
    · rename_i h h2
      exact ⟨(tk_len 93 l f).1, fun h3 => absurd h3 h⟩
    · rename_i h h2
      have h1 := setF_len n (a ++ [(setC l f).1]) (setC l f).2.1 (setC l f).2.2
      have h3 := setC_len l f
      exact ⟨by omega, fun h4 => absurd h4 h⟩
theorem badF_len (op : Int) (l : List UInt8) (f : Bool) : (badF op l f).2.length ≤ l.length := by
  unfold badF
  split
  · exact (tk_len 124 l f).1
  split
  · exact (tk_len 38 l f).1
  · exact Nat.le_refl _
theorem loopF_len {P : PF} (hP : Good P) (op : Int) : ∀ n a l f, (loopF P op n a l f).2.1.length ≤ l.length ∧ (f = true → (loopF P op n a l f).2.2 = true)
  | 0, a, l, f => by simp [loopF]
  | n + 1, a, l, f => by
    rw [loopF]
    split
    · rename_i h
      have h1 := loopF_len hP op n (a ++ [(P (badF op l f).2 (f || (badF op l f).1)).1]) (P (badF op l f).2 (f || (badF op l f).1)).2.1 (P (badF op l f).2 (f || (badF op l f).1)).2.2
      have h2 := hP.len (badF op l f).2 (f || (badF op l f).1)
      have h3 := badF_len op l f
      exact ⟨by omega, fun h4 => by rw [h4] at h; simp [goes] at h⟩
    · simp
theorem loop_mu {P : PF} (hP : Good P) (op : Int) (l : List UInt8) (f : Bool) (h : goes l f = true) : muS (P (badF op l f).2 (f || (badF op l f).1)).2.1 (P (badF op l f).2 (f || (badF op l f).1)).2.2 < muS l f := by
  have hf : f = false := by cases f with | true => simp [goes] at h | false => rfl
  subst hf
  have h3 := badF_len op l false
  unfold muS
  split
  · simp
  · rename_i h4
    have h4 : (P (badF op l false).2 (false || (badF op l false).1)).2.2 = false := by simpa using h4
    rw [Bool.false_or] at h4 ⊢
    cases hb : (badF op l false).1 with
    | true => rw [hb, hP.fail] at h4; cases h4
    | false =>
      rw [hb] at h4
      have := hP.go _ h4
      simp; omega
theorem Good.ex {P : PF} (hP : Good P) : Good (exF P) := by
  have h := fun l f => loopF_len hP (opF (nx (P l f).2.1 (P l f).2.2)) ((P l f).2.1.length + 2) [(P l f).1] (P l f).2.1 (P l f).2.2
  refine ⟨fun l f => ?_, fun l => ?_, fun l => ?_⟩
  · have := (h l f).1; have := hP.len l f; simp only [exF]; omega
  · exact (h l true).2 (hP.fail l)
  · intro h2
    have h3 := h l false
    simp only [exF] at h2 ⊢
    cases h4 : (P l false).2.2 with
    | true => rw [h4] at h2 h3; rw [h3.2 rfl] at h2; cases h2
    | false =>
      have h5 := hP.go l h4
      have h6 := h3.1
      rw [h4] at h6
      omega
theorem Good.atom {E : PF} (hE : Good E) : Good (atomF E) := by
  refine ⟨fun l f => ?_, fun l => ?_, fun l => ?_⟩
  · have h1 := an_len l f
    simp only [atomF]
    split
    · split
      · have := (tk_len 41 (an l f).2.1 (an l f).2.2).1; simp only; omega
      · have h2 := hE.len (an l f).2.1 (an l f).2.2
        have h3 := (tk_len 41 (E (an l f).2.1 (an l f).2.2).2.1 (E (an l f).2.1 (an l f).2.2).2.2).1
        simp only
        split <;> omega
    split
    · have := (setF_len ((an l f).2.1.length + 2) [] (an l f).2.1 (an l f).2.2).1; simp only; omega
    split
    · have := (an_len (an l f).2.1 (an l f).2.2).1; simp only; omega
    · exact h1.1
  · have h0 : an l true = (0, l, true) := by simp [an, nx]
    simp [atomF, h0]
  · intro h
    have h1 := an_len l false
    simp only [atomF] at h ⊢
    split at h
    · rename_i hc
      rw [if_pos hc]
      split at h
      · rename_i h2
        rw [if_pos h2]
        have := (tk_len 41 (an l false).2.1 (an l false).2.2).1
        have := h1.2 h
        simp only; omega
      · rename_i h2
        rw [if_neg h2]
        simp only [Bool.or_eq_false_iff] at h
        have h3 := hE.len (an l false).2.1 (an l false).2.2
        have h4 := (tk_len 41 (E (an l false).2.1 (an l false).2.2).2.1 (E (an l false).2.1 (an l false).2.2).2.2).1
        have h5 : (an l false).2.2 = false := by
          cases h6 : (an l false).2.2 with
          | true => have := h.1; rw [h6, hE.fail] at this; cases this
          | false => rfl
        have := h1.2 h5
        simp only [h.1]
        simp only [h.1] at h4
        simp only [Bool.false_eq_true, if_false]
        omega
    · rename_i hc
      rw [if_neg hc]
      split at h
      · rename_i h2
        rw [if_pos h2]
        have h3 := setF_len ((an l false).2.1.length + 2) [] (an l false).2.1 (an l false).2.2
        have h5 : (an l false).2.2 = false := by
          cases h6 : (an l false).2.2 with
          | true => have := h3.2 h6; rw [h6] at this h; simp only at h; rw [this] at h; cases h
          | false => rfl
        have := h1.2 h5
        simp only; omega
      · rename_i h2
        rw [if_neg h2]
        split at h
        · rename_i h3
          rw [if_pos h3]
          have h4 := an_len (an l false).2.1 (an l false).2.2
          have h5 := h4.2 h
          have := h1.2 h5.1
          simp only; omega
        · rename_i h3
          rw [if_neg h3]
          have := h1.2 h
          simp only; omega
theorem pcF_good : ∀ n, Good (pcF n)
  | 0 => ⟨fun l f => Nat.le_refl _, fun l => rfl, fun l h => by cases h⟩
  | n + 1 => by
    have ih := pcF_good n
    have hA := ih.ex.atom
    refine ⟨fun l f => ?_, fun l => ?_, fun l => ?_⟩
    · rw [pcF]
      split
      · exact Nat.le_refl _
      split
      · have := ih.len (tk 33 l f).2 f; have := (tk_len 33 l f).1; simp only; omega
      · have h1 := hA.len l f
        have h2 := (tk_len 42 (atomF (exF (pcF n)) l f).2.1 (atomF (exF (pcF n)) l f).2.2).1
        simp only
        split
        · simp only; omega
        · exact h1
    · rw [pcF, if_pos rfl]
    · intro h
      rw [pcF, if_neg (by simp)] at h ⊢
      split at h
      · rename_i h2
        rw [if_pos h2]
        have := ih.len (tk 33 l false).2 false
        have := (tk_len 33 l false).2 h2
        simp only; omega
      · rename_i h2
        rw [if_neg h2]
        have h3 := (tk_len 42 (atomF (exF (pcF n)) l false).2.1 (atomF (exF (pcF n)) l false).2.2)
        simp only at h ⊢
        split at h
        · rename_i h4
          rw [if_pos h4]
          have := hA.go l h
          simp only; omega
        · rename_i h4
          rw [if_neg h4]
          exact hA.go l h
end Go.Ab
