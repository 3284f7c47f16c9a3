/- Part of the proof. -/
import Derived.Test.YtjfahhbobiiphaaRZ27
import Derived.Test.YtjfahhbobiiphaaRM27
import Derived.Test.YtjfahhbobiiphaaXO
import Derived.Test.YtjfahhbobiiphaaXC
import Derived.Test.YtjfahhbobiiphaaAbZG
set_option linter.unusedSimpArgs false
set_option linter.unusedVariables false
set_option maxHeartbeats 4000000
namespace Go.Ab
open Go Go.Ab Go.Proofs Go.Ab.Ty

theorem cnts_app : ∀ a b : List Rx, cnts (a ++ b) = cnts a + cnts b
  | [], b => by simp [cnts]
  | x :: a, b => by simp only [List.cons_append, cnts, cnts_app a b]; omega
theorem deps_app : ∀ a b : List Rx, deps (a ++ b) = max (deps a) (deps b)
  | [], b => by simp [deps]
  | x :: a, b => by simp only [List.cons_append, deps, deps_app a b]; omega
theorem cnts_rev : ∀ a : List Rx, cnts a.reverse = cnts a
  | [] => rfl
  | x :: a => by rw [List.reverse_cons, cnts_app, cnts_rev a]; simp only [cnts]; omega
theorem deps_rev : ∀ a : List Rx, deps a.reverse = deps a
  | [] => rfl
  | x :: a => by rw [List.reverse_cons, deps_app, deps_rev a]; simp only [deps]; omega
theorem cnts_mapR {l : List Rx} (h : ∀ x ∈ l, (revX x).cnt = x.cnt) : cnts (l.map revX) = cnts l := by
  induction l with
  | nil => rfl
  | cons x l ih => simp only [List.map_cons, cnts]; rw [h x (by simp), ih fun y hy => h y (by simp [hy])]
theorem deps_mapR {l : List Rx} (h : ∀ x ∈ l, (revX x).dep = x.dep) : deps (l.map revX) = deps l := by
  induction l with
  | nil => rfl
  | cons x l ih => simp only [List.map_cons, deps]; rw [h x (by simp), ih fun y hy => h y (by simp [hy])]
theorem revX_cnt (r : Rx) : (revX r).cnt = r.cnt := by
  induction r using Rx.ind with
  | h o s l ih =>
  rw [revX_mk]
  simp only [Rx.cnt]
  split
  · rw [cnts_rev, cnts_mapR ih]
  · rw [cnts_mapR ih]
theorem revX_dep (r : Rx) : (revX r).dep = r.dep := by
  induction r using Rx.ind with
  | h o s l ih =>
  rw [revX_mk]
  simp only [Rx.dep]
  split
  · rw [deps_rev, deps_mapR ih]
  · rw [deps_mapR ih]
theorem revX_wf (r : Rx) (h : r.wf) : (revX r).wf := by
  induction r using Rx.ind with
  | h o s l ih =>
  obtain ⟨h1, h2⟩ := wf_sub.1 h
  rw [revX_mk, wf_sub]
  split
  · exact ⟨by simpa using h1, fun x hx => by
      obtain ⟨y, hy, rfl⟩ := List.mem_map.1 (List.mem_reverse.1 hx)
      exact ih y hy (h2 y hy)⟩
  · exact ⟨by simpa using h1, fun x hx => by
      obtain ⟨y, hy, rfl⟩ := List.mem_map.1 hx
      exact ih y hy (h2 y hy)⟩
theorem revX_ok (r : Rx) (h : r.ok) : (revX r).ok := by
  induction r using Rx.ind with
  | h o s l ih =>
  obtain ⟨h1, h2, h3⟩ := ok_sub h
  rw [revX_mk]
  split
  · exact .mk _ _ _ h1 (by simpa using h2) fun x hx => by
      obtain ⟨y, hy, rfl⟩ := List.mem_map.1 (List.mem_reverse.1 hx)
      exact ih y hy (h3 y hy)
  · exact .mk _ _ _ h1 (by simpa using h2) fun x hx => by
      obtain ⟨y, hy, rfl⟩ := List.mem_map.1 hx
      exact ih y hy (h3 y hy)
theorem revX_valid (r : Rx) (h : r.valid) : (revX r).valid := ⟨⟨by rw [revX_cnt]; exact h.1.1, by rw [revX_dep]; exact h.1.2⟩, revX_wf r h.2⟩

def bsR (s : ByteArray) (k : Nat) : List UInt8 := (List.range k).map fun p => (s[s.size - 1 - p]?).getD 0
theorem bsR_len (s : ByteArray) (k : Nat) : (bsR s k).length = k := by simp [bsR]
theorem bsR_succ {s : ByteArray} {k : Nat} (h : k < s.size) : bsR s (k + 1) = bsR s k ++ [s[s.size - 1 - k]'(by omega)] := by
  rw [bsR, List.range_succ, List.map_append, List.map_singleton, bs_get (by omega : s.size - 1 - k < s.size)]; rfl
def rvB (s : ByteArray) : ByteArray := ⟨(bsR s s.size).toArray⟩
theorem rvB_size (s : ByteArray) : (rvB s).size = s.size := by
  show (bsR s s.size).toArray.size = s.size
  rw [List.size_toArray, bsR_len]
theorem rvB_get (s : ByteArray) (i : Nat) (h : i < s.size) : (rvB s)[i]'(by rw [rvB_size]; exact h) = s[s.size - 1 - i]'(by omega) := by
  show (bsR s s.size).toArray[i]'(by simp [bsR]; exact h) = _
  simp only [List.getElem_toArray, bsR, List.getElem_map, List.getElem_range]
  rw [bs_get (by omega : s.size - 1 - i < s.size)]; rfl
theorem isTx_rev {s : ByteArray} (h : isTx s) : isTx (rvB s) := ⟨by rw [rvB_size]; exact h.1, fun i hi => by
  rw [rvB_size] at hi
  rw [rvB_get s i hi]; exact h.2 _ (by omega)⟩
theorem matA_rev {r : Rx} {s : ByteArray} (h : fit r s) : matA (revX r) (rvB s) = matA r s := by
  rw [matA_t h, matA_t (show fit (revX r) (rvB s) from ⟨revX_valid r h.1, isTx_rev h.2⟩)]
  have := M_rev (rvB_size s) (rvB_get s) r 0 s.size (Nat.zero_le _) (Nat.le_refl _)
  rw [Nat.sub_self, Nat.sub_zero] at this
  rw [rvB_size, show tb (M (rvB s) (revX r)) 0 s.size = tb (M s r) 0 s.size from by unfold tb; rw [decide_eq_decide]; exact this]
open Classical in
noncomputable def rvR (r : Rx) : Rx := if r.valid then revX r else rx0
open Classical in
noncomputable def rvE (r : Rx) : Int := if r.valid then 0 else 4
theorem rev16 (r : Rx) (hok : r.ok) (hc : r.cnt ≤ 1048576) : Fn Try.prog 16 [encX r] (.tup [encX (rvR r), .int (rvE r)]) := by
  by_cases hv : r.valid
  · simpa [rvR, rvE, hv] using reverseP_t r hok hc hv
  · simpa [rvR, rvE, hv] using reverseP_f r hok hc hv
theorem rev17 (r : Rx) (hok : r.ok) (hc : r.cnt ≤ 1048576) : Fn Try.prog 17 [encX r] (.tup [encX (rvR r), .int (rvE r)]) := by
  by_cases hv : r.valid
  · simpa [rvR, rvE, hv] using reverseR_t r hok hc hv
  · simpa [rvR, rvE, hv] using reverseR_f r hok hc hv
end Go.Ab
