/- Part of the proof. -/
import Derived.Test.YtjfahhbobiiphaaXA
import Derived.Test.YtjfahhbobiiphaaAbJ
import Derived.Test.YtjfahhbobiiphaaAbI
import Derived.Test.YtjfahhbobiiphaaXT
set_option linter.unusedSimpArgs false
set_option linter.unusedVariables false
-- fnh
set_option maxHeartbeats 4000000
namespace Go.Ab
open Go Go.Ab Go.Proofs Go.Ab.Ty

/-! ### strings.Builder -/
abbrev bS (u : Bool) (n : Nat) : ABlk := bldS 82 (pA u 0) 1 n
abbrev bB (l : List UInt8) : ABlk := bldB 5 l
attribute [go_sem] bS bB Bool.false_eq_true
theorem copyCheck_ok (u : Bool) (l : List UInt8) : FnH Try.prog 96 [.ptr 0 1 0 0] [bS u l.length, bB l] (.tup []) [bS true l.length, bB l] := by
  cases u with
  | false =>
    refine FnH.intro' [(0, .ptr 0 1 0 0)] 1 20 2 Try.func96 (by kernel_rfl) rfl rfl rfl rfl rfl rfl ?_
    simp only [bS, bldS, pA, if_true, if_false, Bool.false_eq_true]
    refine goD ?_
    refine ARun.q1 rfl rfl (ql_nilNil rfl rfl Try.underlying80) ?_
    refine goD ?_
    refine AWp.cond (b := true) rfl (fun _ => ?_) (fun h => by cases h)
    refine goD ?_
    refine ARun.q1 rfl rfl (ql_toUnsafe rfl rfl rfl (by decide) Try.underlying80 Try.underlying148 sz82) ?_
    refine goD ?_
    refine ARun.q1 rfl rfl (ql_noEscape Try.func123 (by kernel_rfl) (by kernel_rfl) (by kernel_rfl) (by kernel_rfl) rfl rfl) ?_
    refine goD ?_
    refine ARun.q1 rfl rfl (ql_fromUnsafe rfl rfl rfl Try.underlying148 Try.underlying80 sz82 (by decide)) ?_
    refine goD ?_
    exact RetH.same rfl rfl rfl
  | true =>
    refine FnH.intro' [(0, .ptr 0 1 0 0)] 1 20 2 Try.func96 (by kernel_rfl) rfl rfl rfl rfl rfl rfl ?_
    simp only [bS, bldS, pA, if_true, if_false, Bool.false_eq_true]
    refine goD ?_
    refine ARun.q1 rfl rfl (ql_ptrNil rfl rfl rfl Try.underlying80) ?_
    refine goD ?_
    refine AWp.cond (b := false) rfl (fun h => by cases h) (fun _ => ?_)
    refine goD ?_
    refine ARun.q1 rfl rfl (ql_ptrNeSame rfl rfl rfl Try.underlying80 sz82) ?_
    refine goD ?_
    refine AWp.cond (b := false) rfl (fun h => by cases h) (fun _ => ?_)
    refine goD ?_
    exact RetH.same rfl rfl rfl
theorem writeString_ok (u : Bool) (l : List UInt8) (s : ByteArray) (hb : l.length + s.size ≤ 140737488355328) : FnH Try.prog 70 [.ptr 0 1 0 0, str s] [bS u l.length, bB l] (.tup [.int s.size, .base .nilIface]) [bS true (l ++ s.data.toList).length, bB (l ++ s.data.toList)] := by
  have i1 := copyCheck_ok u l
  refine FnH.intro' [(0, .ptr 0 1 0 0), (1, str s)] 2 19 2 Try.func70 (by kernel_rfl) rfl rfl rfl rfl rfl rfl ?_
  refine goD ?_
  refine ARun.p1 rfl rfl (pl_callBld i1 rfl rfl (by decide) (PuB_bld _ _) (PuB_bld _ _) rfl rfl rfl rfl rfl (by simp) (.tup (by simp))) ?_
  refine goD ?_
  refine ARun.p1 rfl rfl (pl_append_str rfl rfl rfl rfl Try.underlying32 Try.underlying9 el5 zero5 hb) ?_
  simp only [List.set_cons_succ, List.set_cons_zero]
  refine goD ?_
  exact RetH.same rfl rfl (by simp only [bS, bB, bldS, bldB, pA, List.length_append, if_true, Array.length_toList]; rfl)
theorem blen_ok (u : Bool) (l : List UInt8) : FnH Try.prog 71 [.ptr 0 1 0 0] [bS u l.length, bB l] (.int l.length) [bS u l.length, bB l] := by
  refine FnH.intro' [(0, .ptr 0 1 0 0)] 1 8 2 Try.func71 (by kernel_rfl) rfl rfl rfl rfl rfl rfl ?_
  refine goD ?_
  exact RetH.same rfl rfl rfl
theorem bstr_ok (u : Bool) (l : List UInt8) (hl : l.length ≤ maxLen) : FnH Try.prog 72 [.ptr 0 1 0 0] [bS u l.length, bB l] (str ⟨l.toArray⟩) [bS u l.length, if l.length = 0 then bB l else frzB (l.length + 1)] := by
  refine FnH.intro' [(0, .ptr 0 1 0 0)] 1 14 2 Try.func72 (by kernel_rfl) rfl rfl rfl rfl rfl rfl ?_
  refine goD ?_
  refine drA (k := 10) follows (hr := ?_)
  refine goD ?_
  refine ARun.q1t rfl rfl (ql_sliceData rfl rfl (by simp) Try.underlying126) ?_
  refine goD ?_
  refine ARun.p1 rfl rfl (pl_unsafeString rfl rfl rfl rfl hl Try.underlying126 (by kernel_rfl)) ?_
  refine goD ?_
  exact RetH.same rfl rfl (by by_cases h : l.length = 0 <;> simp [h, bS, bldS, bB, bldB, pA])
end Go.Ab
set_option maxHeartbeats 4000000
namespace Go.Ab
open Go Go.Ab Go.Proofs Go.Ab.Ty

/-! ### Replace -/
def endN (L : List (Nat × Nat)) : Nat → Nat
  | 0 => 0
  | k + 1 => (nth (0, 0) L k).2
theorem prevT_endN (L : List (Nat × Nat)) (k : Nat) : prevT 0 L k = (endN L k : Int) := by cases k <;> rfl
def outL (s b : ByteArray) (L : List (Nat × Nat)) : Nat → ByteArray
  | 0 => ByteArray.empty
  | k + 1 => outL s b L k ++ (s.extract (endN L k) (nth (0, 0) L k).1 ++ b)
theorem ex_size (s : ByteArray) (a b : Nat) : (s.extract a b).size ≤ s.size := by rw [ByteArray.size_extract]; omega
theorem outL_size {s b : ByteArray} {L : List (Nat × Nat)} (hs : s.size ≤ 200) (hb : b.size ≤ 200) : ∀ k, (outL s b L k).size ≤ k * 400
  | 0 => Nat.le_refl _
  | k + 1 => by
    rw [outL, ByteArray.size_append, ByteArray.size_append]
    have := outL_size hs hb (L := L) k
    have := ex_size s (endN L k) (nth (0, 0) L k).1
    omega
def repB (s b : ByteArray) (L : List (Nat × Nat)) : ByteArray := outL s b L L.length ++ s.extract (endN L L.length) s.size
def repV (s b : ByteArray) (L : List (Nat × Nat)) : AV := if 2000 < (repB s b L).size then .tup [str ByteArray.empty, .int 2] else .tup [str (repB s b L), .int 0]
open Classical in
noncomputable def repA (r : Rx) (s b : ByteArray) : AV := if fit r s ∧ isTx b then repV s b (allL' r s) else .tup [str ByteArray.empty, .int 4]
theorem repA_t {r : Rx} {s b : ByteArray} (h : fit r s) (h2 : isTx b) : repA r s b = repV s b (allL' r s) := by unfold repA; rw [if_pos ⟨h, h2⟩]
theorem repA_f {r : Rx} {s b : ByteArray} (h : ¬ (fit r s ∧ isTx b)) : repA r s b = .tup [str ByteArray.empty, .int 4] := by unfold repA; rw [if_neg h]
theorem ba_app (a b : ByteArray) : (a ++ b).data.toList = a.data.toList ++ b.data.toList := by simp [ByteArray.data_append]
theorem ba_len (a : ByteArray) : a.data.toList.length = a.size := Array.length_toList
theorem ba_mk (a : ByteArray) : (⟨a.data.toList.toArray⟩ : ByteArray) = a := by cases a; simp
theorem getP {L : List (Nat × Nat)} {k : Nat} (h : k < L.length) : (L.map encP)[k]? = some (.agg [.int (nth (0, 0) L k).1, .int (nth (0, 0) L k).2]) := by
  rw [List.getElem?_map, List.getElem?_eq_getElem h, nth_eq h]; rfl
theorem refReplace_ok (r : Rx) (hok : r.ok) (s b : ByteArray) : Fn Try.prog 33 [encX r, str s, str b] (repA r s b) := by
  have i1 := refValid_ok r hok
  have i2 := refText_ok s
  have i3 := refText_ok b
  have i4 := fun h => refAll_t (r := r) hok (s := s) h
  have hfit : fit r s ↔ r.valid ∧ isTx s := Iff.rfl
  have hT := fun h1 h2 => repA_t (r := r) (s := s) (b := b) h1 h2
  have hF := fun h1 => repA_f (r := r) (s := s) (b := b) h1
  have hgood : goodL (tb (M s r)) (s.size + 1) 0 (-1) (allL' r s) := allG_good (by omega) (by omega)
  have hLl : (allL' r s).length ≤ s.size + 2 := allG_len
  have hget := goodL_get hgood
  generalize allL' r s = L at *
  generalize repA r s b = R at *
  obtain ⟨o, S, l⟩ := r
  rw [encX_mk] at i1 i4 ⊢
  refine Fn.intro' [(0, .agg [.int o, str S, .lst (l.map encX)]), (1, str s), (2, str b)] 3 64 Try.func33 (by kernel_rfl) rfl rfl rfl rfl rfl ?_
  refine goA ?_
  refine callA (i1) ?_
  refine goA ?_
  refine gcallA (i := fun hg => i2) (hr := ?_)
  refine goA ?_
  refine gcallA (i := fun hg => i3) (hr := ?_)
  refine goA ?_
  refine ifA (fun h => ?_) (fun h => ?_)
  · simp at h
    rw [hF (by rw [hfit]; intro hh; exact h.elim (fun h => h.elim (fun h => h hh.1.1) fun h => h hh.1.2) fun h => h hh.2)]
    refine goA ?_
    exact Ret.data rfl rfl (Pu_tup2 (.base _) (.base _))
  simp at h
  have hf := hfit.2 h.1
  have htb := h.2
  rw [hT hf htb]
  have hs2 := hf.2.1
  have hb2 := htb.1
  refine goA ?_
  refine callA ((i4 hf)) ?_
  refine goA ?_
  refine keA [1, 2, 6, 7, 8, 10, 11, 12] ?_
  refine AWp.loopP (J := fun k : Nat => k ≤ L.length) (fun k => [(12, .int k), (11, .int (endN L k)), (10, str (outL s b L k))]) (fun k => L.length - k) 0 (Nat.zero_le _) (.env' (by simp +decide only [go_sem]; exact ⟨Le.refl _, Le.refl _⟩)) ?_
  intro k hk
  have hsz := outL_size (L := L) hs2 hb2 k
  have hk2 : k * 400 ≤ 1000000 := by have : k * 400 ≤ 202 * 400 := Nat.mul_le_mul_right _ (by omega)
                                     omega
  refine goA ?_
  refine ifA (fun hd => ?_) (fun hd => ?_)
  · simp at hd
    obtain ⟨g1, g2, g3, _⟩ := hget k hd
    rw [prevT_endN] at g1
    have hn := nth_eq (d := ((0, 0) : Nat × Nat)) hd
    rw [← hn] at g1 g2 g3
    have hout : outL s b L (k + 1) = outL s b L k ++ (s.extract (endN L k) (nth (0, 0) L k).1 ++ b) := rfl
    have hend : endN L (k + 1) = (nth (0, 0) L k).2 := rfl
    have hg := getP hd
    generalize nth (0, 0) L k = p at *
    obtain ⟨x0, x1⟩ := p
    simp only at g1 g2 g3 hout hend hg
    refine goA ?_
    refine ARun.q1 rfl rfl (ql_indexAddr_lst rfl rfl Try.underlying40 (by omega) (e := .agg [.int x0, .int x1]) hg (by kernel_rfl)) ?_
    refine goA ?_
    refine ARun.q1 rfl rfl (ql_indexAddr_iptr rfl rfl Try.underlying43 (by omega) (by omega) sz3) ?_
    refine goA ?_
    refine ARun.q1 rfl rfl (ql_slice_str (l := endN L k) (h := x0) rfl Try.underlying9 (by simp [bnd, lk, go_sem]) (by simp [bnd, lk, go_sem]) (by omega) (by omega)) ?_
    refine goA ?_
    have hx1 := ex_size s (endN L k) x0
    refine ARun.q1 rfl rfl (ql_addStr (a := outL s b L k) (b := s.extract (endN L k) x0) rfl rfl (by omega)) ?_
    refine goA ?_
    refine ARun.q1 rfl rfl (ql_addStr (a := outL s b L k ++ s.extract (endN L k) x0) (b := b) rfl rfl (by rw [ByteArray.size_append]; omega)) ?_
    refine goA ?_
    refine ARun.q1 rfl rfl (ql_indexAddr_lst rfl rfl Try.underlying40 (by omega) (e := .agg [.int x0, .int x1]) hg (by kernel_rfl)) ?_
    refine goA ?_
    refine ARun.q1 rfl rfl (ql_indexAddr_iptr rfl rfl Try.underlying43 (by omega) (by omega) sz3) ?_
    refine goA ?_
    rw [wrap_succ (by omega)]
    refine ⟨k + 1, by omega, by omega, ?_⟩
    rw [hout, hend, ← ByteArray.append_assoc]
    exact .wk
  simp at hd
  obtain rfl : k = L.length := by omega
  have hen : endN L L.length ≤ s.size := by
    cases hL : L.length with
    | zero => exact Nat.zero_le _
    | succ m =>
      obtain ⟨_, _, g3, _⟩ := hget m (by omega)
      show (nth (0, 0) L m).2 ≤ _
      rw [nth_eq (by omega)]; omega
  have hrep : repV s b L = if 2000 < (repB s b L).size then .tup [str ByteArray.empty, .int 2] else .tup [str (repB s b L), .int 0] := rfl
  have hrb : repB s b L = outL s b L L.length ++ s.extract (endN L L.length) s.size := rfl
  have hx1 := ex_size s (endN L L.length) s.size
  refine goA ?_
  refine ARun.q1 rfl rfl (ql_slice_str (l := endN L L.length) (h := s.size) rfl Try.underlying9 (by simp [bnd, lk, go_sem]) rfl (by omega) (by omega)) ?_
  refine goA ?_
  refine ARun.q1 rfl rfl (ql_addStr (a := outL s b L L.length) (b := s.extract (endN L L.length) s.size) rfl rfl (by omega)) ?_
  rw [← hrb]
  refine goA ?_
  refine ifA (fun h2 => ?_) (fun h2 => ?_)
  · simp at h2
    rw [hrep, if_pos (by omega)]
    refine goA ?_
    exact Ret.data rfl rfl (Pu_tup2 (.base _) (.base _))
  · simp at h2
    rw [hrep, if_neg (by omega)]
    refine goA ?_
    exact Ret.data rfl rfl (Pu_tup2 (.base _) (.base _))
end Go.Ab
set_option maxHeartbeats 4000000
namespace Go.Ab
open Go Go.Ab Go.Proofs Go.Ab.Ty

theorem PuB_X1 (o : Int) (S : ByteArray) (l : List Rx) : PuBl [⟨24, 3, [.agg [.int o, str S, .lst (l.map encX)]]⟩] := .cons (fun e he c hc => by
  rw [List.mem_singleton] at he; subst he
  simp only [AV.cells, List.mem_cons, List.not_mem_nil, or_false] at hc
  rcases hc with rfl | rfl | rfl
  · exact .base _
  · exact .base _
  · exact Pu_mapX l) .nil
theorem bytes_outL (s b : ByteArray) (L : List (Nat × Nat)) (k : Nat) : (outL s b L k).data.toList ++ (s.extract (endN L k) (nth (0, 0) L k).1 ++ b).data.toList = (outL s b L (k + 1)).data.toList := by
  rw [outL, ba_app (outL s b L k)]
theorem pubX3 (o : Int) (S : ByteArray) (l : List Rx) (n : Nat) (bs : List UInt8) {H : List ABlk} : ∀ blk ∈ [(⟨24, 3, [.agg [.int o, str S, .lst (l.map encX)]]⟩ : ABlk), ⟨82, 2, [.agg [.ptr 1 1 0 0, .own 2 n 0 n]]⟩, ⟨5, 1, bs.map AV.u8⟩], ∀ e ∈ blk.es, ∀ c ∈ e.cells, Pub H 3 c c := by
  intro blk hb e he c hc
  simp only [List.mem_cons, List.not_mem_nil, or_false] at hb
  rcases hb with rfl | rfl | rfl
  · exact .pu (PuB_X1 o S l _ (by simp) e he c hc)
  · simp only [List.mem_singleton] at he
    subst he
    simp only [AV.cells, List.mem_cons, List.not_mem_nil, or_false] at hc
    rcases hc with rfl | rfl
    · exact .ptr (by decide)
    · exact .own (by decide)
  · exact .pu (PuB_bld 5 bs e he c hc)
theorem replace_f {r : Rx} (hok : r.ok) (hc : r.cnt ≤ 1000000000) {s b : ByteArray} (hf : ¬ (fit r s ∧ isTx b)) : Fn Try.prog 32 [encX r, str s, str b] (repA r s b) := by
  have i1 := asked_ok r hok hc s
  have i2 := isText_ok b
  rw [repA_f hf]
  by_cases h1 : fit r s
  · have h2 : ¬ isTx b := fun h => hf ⟨h1, h⟩
    rw [askA_t h1] at i1
    generalize tabM s r = T at *
    obtain ⟨o, S, l⟩ := r
    rw [encX_mk] at i1 ⊢
    refine Fn.intro' [(0, .agg [.int o, str S, .lst (l.map encX)]), (1, str s), (2, str b)] 3 52 Try.func32 (by kernel_rfl) rfl rfl rfl rfl rfl ?_
    refine goA ?_
    refine callA (i1) ?_
    refine goA ?_
    refine gcallA (i := fun hg => i2) (hr := ?_)
    refine goA ?_
    refine ifA (fun h => ?_) (fun h => ?_)
    · refine goA ?_
      exact Ret.data rfl rfl (Pu_tup2 (.base _) (.base _))
    · simp [h2] at h
  · rw [askA_f h1] at i1
    obtain ⟨o, S, l⟩ := r
    rw [encX_mk] at i1 ⊢
    refine Fn.intro' [(0, .agg [.int o, str S, .lst (l.map encX)]), (1, str s), (2, str b)] 3 52 Try.func32 (by kernel_rfl) rfl rfl rfl rfl rfl ?_
    refine goA ?_
    refine callA (i1) ?_
    refine goA ?_
    refine gcallA (i := fun hg => i2) (hr := ?_)
    refine goA ?_
    refine ifA (fun h => ?_) (fun h => ?_)
    · refine goA ?_
      exact Ret.data rfl rfl (Pu_tup2 (.base _) (.base _))
    · simp at h
theorem replace_t {r : Rx} (hok : r.ok) (hc : r.cnt ≤ 1000000000) {s b : ByteArray} (hf : fit r s) (hb : isTx b) : Fn Try.prog 32 [encX r, str s, str b] (repA r s b) := by
  have i1 := asked_ok r hok hc s
  have i2 := isText_ok b
  rw [askA_t hf] at i1
  rw [repA_t hf hb]
  have i3 : Fn Try.prog 66 [tabM s r] (.lst ((allL' r s).map encP)) := allP_ok (N := s.size + 1) (by have := hf.2.1; omega) (tb (M s r))
  have hgood : goodL (tb (M s r)) (s.size + 1) 0 (-1) (allL' r s) := allG_good (by omega) (by omega)
  have hLl : (allL' r s).length ≤ s.size + 2 := allG_len
  have hget := goodL_get hgood
  have hs2 := hf.2.1
  have hb2 := hb.1
  have hPT := Pu_tabM s r
  have w1 := fun (u : Bool) (l : List UInt8) (x : ByteArray) h => writeString_ok u l x h
  generalize allL' r s = L at *
  clear hgood
  generalize hF : tb (M s r) = F at hget
  clear hF
  generalize tabM s r = T at *
  obtain ⟨o, S, l⟩ := r
  rw [encX_mk] at i1 ⊢
  refine Fn.intro' [(0, .agg [.int o, str S, .lst (l.map encX)]), (1, str s), (2, str b)] 3 52 Try.func32 (by kernel_rfl) rfl rfl rfl rfl rfl ?_
  refine goA ?_
  refine callA (i1) ?_
  refine goA ?_
  refine gcallA (i := fun hg => i2) (hr := ?_)
  refine goA ?_
  refine ifA (fun h => ?_) (fun h => ?_)
  · simp [hb] at h
  refine goA ?_
  refine callA (i3) ?_
  refine goA ?_
  refine AWp.weaken (Wk.bld (H1 := [⟨24, 3, [.agg [.int o, str S, .lst (l.map encX)]]⟩]) 82 5 (PuB_X1 o S l) (E2 := [(1, str s), (2, str b), (10, .ptr 1 1 0 0), (11, .int 0), (28, .lst (L.map encP)), (29, .int L.length), (30, .int 0)]) ?_) ?_
  · simp +decide only [NilE, lk, if_true, if_false]
    exact ⟨.pu (.base _), .pu (.base _), .ptr, .pu (.base _), .pu (Pu_mapP _), .pu (.base _), .pu (.base _), trivial⟩
  refine AWp.loopH (J := fun k : Nat => k ≤ L.length) (fun k => [(30, .int k), (11, .int (endN L k))]) (fun k => [⟨24, 3, [.agg [.int o, str S, .lst (l.map encX)]]⟩, bldS 82 (pA (decide (0 < k)) 1) 2 (outL s b L k).data.toList.length, bldB 5 (outL s b L k).data.toList]) (fun k => L.length - k) 0 (Nat.zero_le _) (.env2 (by rfl) (by simp +decide only [go_sem]; exact Le.refl _)) ?_
  intro k hk
  have hsz := outL_size (L := L) hs2 hb2 k
  have hk2 : k * 400 ≤ 1000000 := by have : k * 400 ≤ 202 * 400 := Nat.mul_le_mul_right _ (by omega)
                                     omega
  refine goA ?_
  refine ifA (fun hd => ?_) (fun hd => ?_)
  · simp at hd
    obtain ⟨g1, g2, g3, _⟩ := hget k hd
    rw [prevT_endN] at g1
    have hn := nth_eq (d := ((0, 0) : Nat × Nat)) hd
    rw [← hn] at g1 g2 g3
    have hout := bytes_outL s b L k
    have hend : endN L (k + 1) = (nth (0, 0) L k).2 := rfl
    have hg := getP hd
    generalize nth (0, 0) L k = p at *
    obtain ⟨x0, x1⟩ := p
    simp only at g1 g2 g3 hout hend hg
    refine goA ?_
    refine ARun.q1 rfl rfl (ql_indexAddr_lst rfl rfl Try.underlying40 (by omega) (e := .agg [.int x0, .int x1]) hg (by kernel_rfl)) ?_
    refine goA ?_
    refine ARun.q1 rfl rfl (ql_indexAddr_ptr rfl rfl rfl Try.underlying43 (by omega) (by omega) sz3) ?_
    refine goA ?_
    refine ARun.q1 rfl rfl (ql_slice_str (l := endN L k) (h := x0) rfl Try.underlying9 (by simp [bnd, lk, go_sem]) (by simp [bnd, lk, go_sem]) (by omega) (by omega)) ?_
    refine goA ?_
    have hx1 := ex_size s (endN L k) x0
    refine ARun.q1 rfl rfl (ql_addStr (a := s.extract (endN L k) x0) (b := b) rfl rfl (by omega)) ?_
    refine goA ?_
    refine ARun.p1 rfl rfl (pl_callBld (w1 (decide (0 < k)) (outL s b L k).data.toList (s.extract (endN L k) x0 ++ b) (by rw [ba_len, ByteArray.size_append]; omega)) rfl rfl (by decide) (PuB_bld _ _) (PuB_bld _ _) rfl rfl rfl rfl rfl (by simp) (.tup (by simp))) ?_
    rw [hout]
    refine goA ?_
    refine ARun.q1 rfl rfl (ql_indexAddr_ptr rfl rfl rfl Try.underlying43 (by omega) (by omega) sz3) ?_
    refine goA ?_
    rw [wrap_succ (by omega), ← hend]
    refine ⟨k + 1, by omega, by omega, (Wk.trim' 3 rfl (by simp +decide only [go_sem, WkP]; (repeat' apply And.intro); all_goals first | trivial | exact .pu (.base _) | exact .ptr (by decide) | exact .own (by decide) | exact .pu (by simp) | exact .bad _)) ?_⟩
    exact pubX3 o S l _ _
  simp at hd
  obtain rfl : k = L.length := by omega
  have hen : endN L L.length ≤ s.size := by
    cases hL : L.length with
    | zero => exact Nat.zero_le _
    | succ m =>
      obtain ⟨_, _, g3, _⟩ := hget m (by omega)
      show (nth (0, 0) L m).2 ≤ _
      rw [nth_eq (by omega)]; omega
  have hrep : repV s b L = if 2000 < (repB s b L).size then .tup [str ByteArray.empty, .int 2] else .tup [str (repB s b L), .int 0] := rfl
  have hrb : (outL s b L L.length).data.toList ++ (s.extract (endN L L.length) s.size).data.toList = (repB s b L).data.toList := by rw [repB, ba_app]
  have hx1 := ex_size s (endN L L.length) s.size
  have hrl : (repB s b L).size ≤ maxLen := by rw [repB, ByteArray.size_append]; unfold maxLen; omega
  refine goA ?_
  refine ARun.q1 rfl rfl (ql_slice_str (l := endN L L.length) (h := s.size) rfl Try.underlying9 (by simp [bnd, lk, go_sem]) rfl (by omega) (by omega)) ?_
  refine goA ?_
  refine ARun.p1 rfl rfl (pl_callBld (w1 (decide (0 < L.length)) (outL s b L L.length).data.toList (s.extract (endN L L.length) s.size) (by rw [ba_len]; omega)) rfl rfl (by decide) (PuB_bld _ _) (PuB_bld _ _) rfl rfl rfl rfl rfl (by simp) (.tup (by simp))) ?_
  rw [hrb]
  refine goA ?_
  refine ARun.p1 rfl rfl (pl_callBld (blen_ok true (repB s b L).data.toList) rfl rfl (by decide) (PuB_bld _ _) (PuB_bld _ _) rfl rfl rfl rfl rfl (by simp) (.base _)) ?_
  refine goA ?_
  rw [hrep]
  refine ifA (fun h2 => ?_) (fun h2 => ?_)
  · simp only [ba_len] at h2
    simp at h2
    rw [if_pos (by omega)]
    refine goA ?_
    exact Ret.data rfl rfl (Pu_tup2 (.base _) (.base _))
  · simp only [ba_len] at h2
    simp at h2
    rw [if_neg (by omega)]
    refine goA ?_
    refine ARun.p1 rfl rfl (pl_callBld (bstr_ok true (repB s b L).data.toList (by rw [ba_len]; exact hrl)) rfl rfl (by decide) (PuB_bld _ _) (by split <;> first | exact PuB_bld _ _ | exact PuB_frz _) rfl rfl rfl rfl rfl (by simp) (.base _)) ?_
    rw [ba_mk]
    refine goA ?_
    exact Ret.data rfl rfl (Pu_tup2 (.base _) (.base _))
end Go.Ab
set_option maxHeartbeats 4000000
namespace Go.Ab
open Go Go.Ab Go.Proofs Go.Ab.Ty

/-! ### the law on what is found -/
section
variable (r : Rx) (hok : r.ok) (hc : r.cnt ≤ 1000000000) (s : ByteArray)
include hok hc
theorem finX : ∃ i j e : Int, Fn Try.prog 29 [encX r, str s] (.tup [.int i, .int j, .int e]) ∧ Fn Try.prog 30 [encX r, str s] (.tup [.int i, .int j, .int e]) := by
  have h2 := refFind_ok r hok s
  by_cases hf : fit r s
  · rw [finA_t hf] at h2
    exact ⟨_, _, _, find_t hok hc hf, h2⟩
  · rw [finA_f hf] at h2
    exact ⟨_, _, _, find_f hok hc hf, h2⟩
theorem allX2 : ∃ (l : List (Nat × Nat)) (e : Int), l.length ≤ s.size + 2 ∧ Fn Try.prog 28 [encX r, str s] (.tup [.lst (l.map encP), .int e]) ∧ Fn Try.prog 31 [encX r, str s] (.tup [.lst (l.map encP), .int e]) := by
  by_cases hf : fit r s
  · exact ⟨_, _, allG_len, all_t hok hc hf, refAll_t hok hf⟩
  · exact ⟨[], _, Nat.zero_le _, all_f hok hc hf, refAll_f hok hf⟩
theorem repX (b : ByteArray) : ∃ (t : ByteArray) (e : Int), Fn Try.prog 32 [encX r, str s, str b] (.tup [str t, .int e]) ∧ Fn Try.prog 33 [encX r, str s, str b] (.tup [str t, .int e]) := by
  have h2 := refReplace_ok r hok s b
  have h1 : Fn Try.prog 32 [encX r, str s, str b] (repA r s b) := by
    by_cases hf : fit r s ∧ isTx b
    · exact replace_t hok hc hf.1 hf.2
    · exact replace_f hok hc hf
  have h3 : ∃ (t : ByteArray) (e : Int), repA r s b = .tup [str t, .int e] := by
    by_cases hf : fit r s ∧ isTx b
    · rw [repA_t hf.1 hf.2]; unfold repV; split <;> exact ⟨_, _, rfl⟩
    · rw [repA_f hf]; exact ⟨_, _, rfl⟩
  obtain ⟨t, e, h3⟩ := h3
  rw [h3] at h1 h2
  exact ⟨t, e, h1, h2⟩
end
theorem law_finds (r : Rx) (hok : r.ok) (s b : ByteArray) : Fn Try.prog 6 [encX r, str s, str b] (.bool true) := by
  have i1 := small_ok [r] (Nat.le_of_lt (by decide : 1 < maxLen)) (by simpa using hok)
  have i2 := refText_ok s
  have k1 := fun h => finX r hok (by have : r.cnt ≤ 80 := h; omega) s
  have k2 := fun h => allX2 r hok (by have : r.cnt ≤ 80 := h; omega) s
  have k3 := fun h => repX r hok (by have : r.cnt ≤ 80 := h; omega) s b
  have hsm : smallX r → r.cnt ≤ 80 := fun h => h.1
  obtain ⟨o, S, l⟩ := r
  rw [List.map_cons, List.map_nil, encX_mk] at i1
  rw [encX_mk] at k1 k2 k3 ⊢
  refine Fn.intro' [(0, .agg [.int o, str S, .lst (l.map encX)]), (1, str s), (2, str b)] 3 120 Try.func6 (by kernel_rfl) rfl rfl rfl rfl rfl ?_
  refine goB ?_
  refine callA (i1) ?_
  refine goB ?_
  refine gcallA (i := fun hg => i2) (hr := ?_)
  refine goB ?_
  refine ifA (fun h => ?_) (fun h => ?_)
  · refine goB ?_
    exact Ret.bool rfl (by simp)
  simp at h
  have h80 := hsm h.1.1.1
  obtain ⟨i, j, e, f1, f2⟩ := k1 h80
  obtain ⟨L, e2, hL, a1, a2⟩ := k2 h80
  obtain ⟨t, e3, r1, r2⟩ := k3 h80
  have hL2 : L.length ≤ 1000000 := by have := h.1.2; omega
  refine goB ?_
  refine callA (f1) ?_
  refine goB ?_
  refine callA (f2) ?_
  refine goB ?_
  refine callA (a1) ?_
  refine goB ?_
  refine callA (a2) ?_
  refine goB ?_
  refine callA (r1) ?_
  refine goB ?_
  refine callA (r2) ?_
  refine goB ?_
  refine gcallA (i := fun hg => equal_ok L L hL2) (hr := ?_)
  refine goB ?_
  refine gcallA (i := fun hg => awake_true) (hr := ?_)
  refine goB ?_
  exact Ret.bool rfl (by simp)
end Go.Ab
