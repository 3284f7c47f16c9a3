/- Part of the proof. -/
import Derived.Test.YtjfahhbobiiphaaXYa
import Derived.Test.YtjfahhbobiiphaaXK
import Derived.Test.YtjfahhbobiiphaaAbM
set_option linter.unusedSimpArgs false
set_option linter.unusedVariables false
-- fnh
set_option maxHeartbeats 4000000
namespace Go.Ab
open Go Go.Ab Go.Proofs Go.Ab.Ty

/-! ### texts of sets -/
abbrev bsL (l : List UInt8) : ByteArray := ⟨l.toArray⟩
theorem bsL_data (s : ByteArray) : bsL s.data.toList = s := rfl
theorem bsL_toList (l : List UInt8) : (bsL l).data.toList = l := rfl
theorem bsL_size (l : List UInt8) : (bsL l).size = l.length := by simp [ByteArray.size]
theorem bsL_app (a b : List UInt8) : bsL a ++ bsL b = bsL (a ++ b) := by simp [ByteArray.ext_iff]
theorem isIn_mem (s : ByteArray) (c : UInt8) : isIn s c ↔ c ∈ s.data.toList := by
  unfold isIn
  constructor
  · rintro ⟨i, h, rfl⟩
    rw [List.mem_iff_getElem]
    exact ⟨i, by simpa using h, by simp; rfl⟩
  · intro h
    obtain ⟨i, hi, rfl⟩ := List.mem_iff_getElem.1 h
    exact ⟨i, by simpa using hi, by simp; rfl⟩
def escB (sp : List UInt8) : List UInt8 → List UInt8
  | [] => []
  | c :: l => (if c ∈ sp then [92, c] else [c]) ++ escB sp l
theorem escB_app (sp a b : List UInt8) : escB sp (a ++ b) = escB sp a ++ escB sp b := by
  induction a with
  | nil => rfl
  | cons c a ih => simp only [List.cons_append, escB, ih, List.append_assoc]
theorem escB_len (sp l : List UInt8) : (escB sp l).length ≤ 2 * l.length := by
  induction l with
  | nil => simp [escB]
  | cons c l ih => rw [escB, List.length_append, List.length_cons]; split <;> simp only [List.length_cons, List.length_nil] <;> omega
theorem escB_take {sp l : List UInt8} {k : Nat} (h : k < l.length) : escB sp (l.take (k + 1)) = escB sp (l.take k) ++ (if l[k] ∈ sp then [92, l[k]] else [l[k]]) := by
  rw [List.take_succ_eq_append_getElem h, escB_app]
  simp [escB]
theorem writeByte_ok (u : Bool) (l : List UInt8) (c : UInt8) (hb : l.length + 1 ≤ 140737488355328) : FnH Try.prog 128 [.ptr 0 1 0 0, chr c] [bS u l.length, bB l] (.base .nilIface) [bS true (l ++ [c]).length, bB (l ++ [c])] := by
  have i1 := copyCheck_ok u l
  refine FnH.intro' [(0, .ptr 0 1 0 0), (1, chr c)] 2 17 2 Try.func128 (by kernel_rfl) rfl rfl rfl rfl rfl rfl ?_
  refine goD ?_
  refine ARun.p1 rfl rfl (pl_callBld i1 rfl rfl (by decide) (PuB_bld _ _) (PuB_bld _ _) rfl rfl rfl rfl rfl (by simp) (.tup (by simp))) ?_
  refine goD ?_
  refine ARun.p1 rfl rfl (pl_append (b := 1) (tot := l.length) (es := [chr c]) (by simp +decide only [go_sem] <;> rfl) (by simp +decide only [go_sem] <;> rfl) rfl (by simp [bldB]) Try.underlying32 el5 rfl rfl (by simp) (fun e he => by rw [List.mem_singleton] at he; subst he; exact ⟨rfl, rfl⟩) (by simpa using hb) (by simpa using hb)) ?_
  simp only [List.set_cons_succ, List.set_cons_zero]
  refine goD ?_
  exact RetH.same rfl rfl (by simp only [bS, bB, bldS, bldB, pA, List.length_append, if_true, List.map_append]; rfl)
theorem escaped_ok (s sp : ByteArray) (hs : s.size ≤ 100000) : Fn Try.prog 101 [str s, str sp] (str (bsL (escB sp.data.toList s.data.toList))) := by
  have hel := escB_len sp.data.toList s.data.toList
  have hsl : s.data.toList.length = s.size := by rw [Array.length_toList]; rfl
  refine Fn.intro' [(0, str s), (1, str sp)] 2 25 Try.func101 (by kernel_rfl) rfl rfl rfl rfl rfl ?_
  refine goD ?_
  refine keA [0, 1, 5, 7, 8, 9] ?_
  refine AWp.weaken (Wk.bld (H1 := []) 82 5 (fun _ h => by cases h) (E2 := [(0, str s), (1, str sp), (5, .ptr 0 1 0 0), (8, .int s.size), (9, .int 0)]) ?_) ?_
  · simp +decide only [NilE, lk, if_true, if_false]
    exact ⟨.pu (.base _), .pu (.base _), .ptr, .pu (.base _), .pu (.base _), trivial⟩
  refine AWp.loopH (J := fun k : Nat => k ≤ s.size) (fun k => [(9, .int k)]) (fun k => [bldS 82 (pA (decide (0 < k)) 0) 1 (escB sp.data.toList (s.data.toList.take k)).length, bldB 5 (escB sp.data.toList (s.data.toList.take k))]) (fun k => s.size - k) 0 (Nat.zero_le _) (.env2 (by rfl) (by simp +decide only [go_sem])) ?_
  intro k hk
  have hlk := escB_len sp.data.toList (s.data.toList.take k)
  have hlt : (s.data.toList.take k).length = k := by simp; omega
  refine goD ?_
  refine ifA (fun hd => ?_) (fun hd => ?_)
  · simp at hd
    have hT := escB_take (sp := sp.data.toList) (l := s.data.toList) (k := k) (by omega)
    have hget : s.data.toList[k]'(by omega) = s[k] := by simp; rfl
    rw [hget] at hT
    have i1 := indexByte_ok sp s[k]
    have hix := ixB_ge sp s[k]
    rw [isIn_mem] at hix
    generalize escB sp.data.toList (s.data.toList.take k) = A at *
    refine goC ?_
    refine ARun.q1 rfl rfl (ql_index_str rfl rfl Try.underlying9 (by omega) (bs_get (i := k) (by omega))) ?_
    refine goC ?_
    refine callA (i1) ?_
    refine goC ?_
    have hw := fun (u : Bool) (B : List UInt8) (c : UInt8) (h : B.length + 1 ≤ 140737488355328) => writeByte_ok u B c h
    have hbyte : ∀ A : List UInt8, PuBl [bldS 82 (pA true 0) 1 A.length, bldB 5 A] → True := fun _ _ => trivial
    refine ifA (fun hc => ?_) (fun hc => ?_)
    · have hc2 := hix.1 (of_decide_eq_true hc)
      rw [if_pos hc2] at hT
      refine goD ?_
      refine ARun.p1 rfl rfl (pl_callBld (hw (decide (0 < k)) A 92 (by omega)) rfl rfl (by decide) (PuB_bld _ _) (PuB_bld _ _) rfl rfl rfl rfl rfl (by simp) (.base _)) ?_
      refine goC ?_
      refine ARun.q1 rfl rfl (ql_index_str rfl rfl Try.underlying9 (by omega) (bs_get (i := k) (by omega))) ?_
      refine goC ?_
      refine ARun.p1 rfl rfl (pl_callBld (hw true (A ++ [92]) s[k] (by simp; omega)) rfl rfl (by decide) (PuB_bld _ _) (PuB_bld _ _) rfl rfl rfl rfl rfl (by simp) (.base _)) ?_
      rw [List.append_assoc, show [92] ++ [s[k]] = [92, s[k]] from rfl, ← hT]
      refine goC ?_
      rw [wrap_succ (by omega)]
      exact ⟨k + 1, by omega, by omega, .env2 (by rfl) (by simp +decide only [go_sem])⟩
    · have hc2 : s[k] ∉ sp.data.toList := fun h => (of_decide_eq_false hc) (hix.2 h)
      rw [if_neg hc2] at hT
      refine goC ?_
      refine ARun.q1 rfl rfl (ql_index_str rfl rfl Try.underlying9 (by omega) (bs_get (i := k) (by omega))) ?_
      refine goC ?_
      refine ARun.p1 rfl rfl (pl_callBld (hw (decide (0 < k)) A s[k] (by omega)) rfl rfl (by decide) (PuB_bld _ _) (PuB_bld _ _) rfl rfl rfl rfl rfl (by simp) (.base _)) ?_
      rw [← hT]
      refine goC ?_
      rw [wrap_succ (by omega)]
      exact ⟨k + 1, by omega, by omega, .env2 (by rfl) (by simp +decide only [go_sem])⟩
  simp at hd
  obtain rfl : k = s.size := by omega
  rw [show s.data.toList.take s.size = s.data.toList by rw [← hsl, List.take_length]]
  generalize escB sp.data.toList s.data.toList = A at *
  refine goD ?_
  refine ARun.p1 rfl rfl (pl_callBld (bstr_ok (decide (0 < s.size)) A (by unfold maxLen; omega)) rfl rfl (by decide) (PuB_bld _ _) (by split; exact PuB_bld _ _; exact PuB_frz _) rfl rfl rfl rfl rfl (by simp) (.base _)) ?_
  refine goD ?_
  exact Ret.data rfl rfl (.base _)
end Go.Ab
