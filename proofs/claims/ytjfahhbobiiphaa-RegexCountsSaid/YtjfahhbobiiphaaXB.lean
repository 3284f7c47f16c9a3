/- Part of the proof. -/
import Derived.Test.YtjfahhbobiiphaaXA
set_option linter.unusedSimpArgs false
set_option linter.unusedVariables false
set_option maxHeartbeats 4000000
namespace Go.Ab
open Go Go.Ab Go.Proofs Go.Ab.Ty

theorem thin_sub {o : Int} {s : ByteArray} {l : List Rx} : (Rx.mk o s l).thin ↔ s.size ≤ 200 ∧ ∀ x ∈ l, x.thin :=
  ⟨fun | .mk _ _ _ h1 h2 => ⟨h1, h2⟩, fun ⟨h1, h2⟩ => .mk _ _ _ h1 h2⟩
theorem Pu_Xc (r : Rx) : ∀ c ∈ (encX r).cells, Pu c := by
  induction r using Rx.ind with
  | h o s l ih =>
  rw [encX_mk]
  intro c hc
  simp only [AV.cells, List.mem_cons, List.not_mem_nil, or_false] at hc
  rcases hc with rfl | rfl | rfl
  · exact .base _
  · exact .base _
  · exact .lst fun e he c hc => by
      obtain ⟨x, hx, rfl⟩ := List.mem_map.1 he
      exact ih x hx c hc
@[simp] theorem Pu_mapX (l : List Rx) : Pu (.lst (l.map encX)) := .lst fun e he c hc => by
  obtain ⟨x, hx, rfl⟩ := List.mem_map.1 he
  exact Pu_Xc x c hc
@[simp] theorem Pu_aggX (o : Int) (s : ByteArray) (l : List Rx) : Pu (.agg [.int o, str s, .lst (l.map encX)]) := .agg fun c hc => by
  have := Pu_Xc (.mk o s l)
  rw [encX_mk] at this
  exact this c hc
theorem ok_sub {o : Int} {s : ByteArray} {l : List Rx} : (Rx.mk o s l).ok → s.size ≤ maxLen ∧ l.length ≤ maxLen ∧ ∀ x ∈ l, x.ok
  | .mk _ _ _ h1 h2 h3 => ⟨h1, h2, h3⟩
open Classical in
theorem thin_ok (r : Rx) (hok : r.ok) : Fn Try.prog 53 [encX r] (.bool (decide r.thin)) := by
  induction r using Rx.ind with
  | h o s l ih =>
  obtain ⟨hs, hn, hl⟩ := ok_sub hok
  unfold maxLen at hs hn
  rw [encX_mk]
  refine Fn.intro' [(0, .agg [.int o, str s, .lst (l.map encX)])] 1 22 Try.func53 (by kernel_rfl) rfl rfl rfl rfl rfl ?_
  refine goB ?_
  refine ifA (fun h1 => ?_) (fun h1 => ?_)
  · simp at h1
    refine goB ?_
    exact Ret.bool rfl (by rw [decide_eq_true_iff, thin_sub]; exact ⟨fun h => (nomatch h), fun h => absurd h.1 (by omega)⟩)
  simp at h1
  refine goB ?_
  refine AWp.loopP (J := fun k : Nat => k ≤ l.length ∧ ∀ i, ∀ h : i < l.length, i < k → (l[i]).thin) (fun k => [(3, .int k)]) (fun k => l.length - k) 0 ⟨Nat.zero_le _, fun i h h' => by omega⟩ .wk ?_
  rintro k ⟨hk, he⟩
  refine goB ?_
  refine ifA (fun hd => ?_) (fun hd => ?_)
  · simp at hd
    refine goB ?_
    have hm : l[k] ∈ l := List.getElem_mem _
    rcases hx : l[k] with ⟨o1, s1, l1⟩
    have ih1 := ih _ hm (hl _ hm)
    rw [hx, encX_mk] at ih1
    refine ARun.q1 rfl rfl (ql_indexAddr_lst rfl rfl Try.underlying22 (by omega) (e := .agg [.int o1, str s1, .lst (l1.map encX)]) (by simp [hd, hx, encX_mk]) (by kernel_rfl)) ?_
    refine goB ?_
    refine callA (ih1) ?_
    refine goB ?_
    refine ifA (fun hq => ?_) (fun hq => ?_)
    · simp at hq
      refine goB ?_
      exact Ret.bool rfl (by rw [decide_eq_true_iff, thin_sub]; exact ⟨fun h => (nomatch h), fun h => absurd (hx ▸ h.2 _ hm) hq⟩)
    · simp at hq
      refine goB ?_
      rw [wrap_succ (by omega)]
      refine ⟨k + 1, ⟨by omega, fun i h hi => ?_⟩, by omega, .wk⟩
      by_cases e : i = k
      · subst e; rw [hx]; exact hq
      · exact he i h (by omega)
  simp at hd
  refine goB ?_
  exact Ret.bool rfl (by rw [decide_eq_true_iff, thin_sub]; exact ⟨fun _ => ⟨by omega, fun x hx => by obtain ⟨i, hi, rfl⟩ := List.mem_iff_getElem.1 hx; exact he i hi (by omega)⟩, fun _ => rfl⟩)
end Go.Ab
set_option maxHeartbeats 4000000
namespace Go.Ab
open Go Go.Ab Go.Proofs Go.Ab.Ty

def isTx (s : ByteArray) : Prop := s.size ≤ 200 ∧ ∀ i, ∀ h : i < s.size, okB s[i]
open Classical in
theorem isText_ok (s : ByteArray) : Fn Try.prog 69 [str s] (.bool (decide (isTx s))) := by
  refine Fn.intro' [(0, str s)] 1 23 Try.func69 (by kernel_rfl) rfl rfl rfl rfl rfl ?_
  refine goB ?_
  refine ifA (fun h1 => ?_) (fun h1 => ?_)
  · simp at h1
    refine goB ?_
    exact Ret.bool rfl (by rw [decide_eq_true_iff]; exact ⟨fun h => (nomatch h), fun h => absurd h.1 (by omega)⟩)
  simp at h1
  refine goB ?_
  refine AWp.loopP (J := fun k : Nat => k ≤ s.size ∧ ∀ i, ∀ h : i < s.size, i < k → okB s[i]) (fun k => [(9, .int k)]) (fun k => s.size - k) 0 ⟨Nat.zero_le _, fun i h h' => by omega⟩ .wk ?_
  rintro k ⟨hk, he⟩
  refine goB ?_
  refine ifA (fun hd => ?_) (fun hd => ?_)
  · simp at hd
    refine goB ?_
    refine ARun.q1 rfl rfl (ql_index_str rfl rfl Try.underlying9 (by omega) (bs_get (i := k) (by omega))) ?_
    refine goB ?_
    refine gqA (h := fun hg => ql_index_str (by simp +decide only [go_sem] <;> rfl) (by simp +decide only [go_sem] <;> rfl) Try.underlying9 (by omega) (bs_get (i := k) (by omega))) (hr := ?_)
    refine goB ?_
    refine ifA (fun hq => ?_) (fun hq => ?_)
    · simp at hq
      refine goB ?_
      exact Ret.bool rfl (by rw [decide_eq_true_iff]; exact ⟨fun h => (nomatch h), fun h => absurd (h.2 k hd) (by unfold okB; omega)⟩)
    · simp at hq
      refine goB ?_
      rw [wrap_succ (by omega)]
      refine ⟨k + 1, ⟨by omega, fun i h hi => ?_⟩, by omega, .wk⟩
      by_cases e : i = k
      · subst e; unfold okB; omega
      · exact he i h (by omega)
  simp at hd
  refine goB ?_
  exact Ret.bool rfl (by rw [decide_eq_true_iff]; exact ⟨fun _ => ⟨by omega, fun i h => he i h (by omega)⟩, fun _ => rfl⟩)
end Go.Ab
set_option maxHeartbeats 4000000
namespace Go.Ab
open Go Go.Ab Go.Proofs Go.Ab.Ty

mutual
def Rx.cnt : Rx → Nat
  | .mk _ _ l => 1 + cnts l
def cnts : List Rx → Nat
  | [] => 0
  | r :: l => r.cnt + cnts l
end
theorem Rx.cnt_pos : ∀ r : Rx, 1 ≤ r.cnt
  | .mk _ _ _ => by rw [Rx.cnt]; omega
def cutN (m : Nat) : List Rx → Nat → Nat
  | [], _ => 0
  | _, 0 => 0
  | r :: l, k + 1 => min r.cnt m + cutN m l k
theorem cutN_zero (m : Nat) (l : List Rx) : cutN m l 0 = 0 := by cases l <;> rfl
theorem cutN_succ {m : Nat} {l : List Rx} {k : Nat} (h : k < l.length) : cutN m l (k + 1) = cutN m l k + min (l[k]).cnt m := by
  induction l generalizing k with
  | nil => simp at h
  | cons r l ih =>
    cases k with
    | zero => simp [cutN, cutN_zero]
    | succ k =>
      have := ih (k := k) (by simpa using h)
      simp only [cutN, List.getElem_cons_succ] at this ⊢
      omega
theorem cutN_le (m : Nat) (l : List Rx) (k : Nat) : cutN m l k ≤ cnts l := by
  induction l generalizing k with
  | nil => simp [cutN]
  | cons r l ih =>
    cases k with
    | zero => simp [cutN]
    | succ k => have := ih k; simp only [cutN, cnts]; omega
theorem cutN_all {m : Nat} {l : List Rx} (h : cutN m l l.length < m) : cutN m l l.length = cnts l := by
  induction l with
  | nil => rfl
  | cons r l ih =>
    simp only [List.length_cons, cutN, cnts] at h ⊢
    have := ih (by omega)
    omega
theorem nodes_ok (r : Rx) (hok : r.ok) : Fn Try.prog 36 [encX r, .int 80] (.int (min r.cnt 81 : Nat)) := by
  induction r using Rx.ind with
  | h o s l ih =>
  obtain ⟨hs, hn, hl⟩ := ok_sub hok
  unfold maxLen at hs hn
  rw [encX_mk]
  refine Fn.intro' [(0, .agg [.int o, str s, .lst (l.map encX)]), (1, .int 80)] 2 32 Try.func36 (by kernel_rfl) rfl rfl rfl rfl rfl ?_
  refine goB ?_
  refine AWp.loopP (J := fun k : Nat => k ≤ l.length ∧ 1 + cutN 81 l k ≤ 161) (fun k => [(6, .int k), (5, .int (1 + cutN 81 l k : Nat))]) (fun k => l.length - k) 0 ⟨Nat.zero_le _, by simp [cutN_zero]⟩ (.env' (by simp +decide only [go_sem] <;> simp [Le.refl, cutN_zero])) ?_
  rintro k ⟨hk, he⟩
  refine goB ?_
  refine ifA (fun hd => ?_) (fun hd => ?_)
  · simp at hd
    refine goB ?_
    have hm : l[k]'hd.1 ∈ l := List.getElem_mem _
    rcases hx : l[k]'hd.1 with ⟨o1, s1, l1⟩
    have ih1 := ih _ hm (hl _ hm)
    rw [hx, encX_mk] at ih1
    refine ARun.q1 rfl rfl (ql_indexAddr_lst rfl rfl Try.underlying22 (by omega) (e := .agg [.int o1, str s1, .lst (l1.map encX)]) (by simp [hd.1, hx, encX_mk]) (by kernel_rfl)) ?_
    refine goB ?_
    refine callA (ih1) ?_
    refine goB ?_
    have hc := cutN_succ (m := 81) hd.1
    rw [hx] at hc
    rw [wrap_succ (by omega), wrap_id (by omega) (by omega)]
    have e2 : ((1 + cutN 81 l k : Nat) : Int) + ((min (Rx.mk o1 s1 l1).cnt 81 : Nat) : Int) = ((1 + cutN 81 l (k + 1) : Nat) : Int) := by omega
    rw [e2]
    exact ⟨k + 1, ⟨by omega, by omega⟩, by omega, .wk⟩
  simp at hd
  refine goB ?_
  have := cutN_le 81 l k
  have h2 := cutN_all (m := 81) (l := l)
  have hf : min ((1 + cutN 81 l k : Nat) : Int) (IntKind.i64.wrap (80 + 1)) = ((min (Rx.mk o s l).cnt 81 : Nat) : Int) := by
    rw [wrap_id (by omega) (by omega), Rx.cnt]
    by_cases hlt : k < l.length
    · have := hd hlt; omega
    · obtain rfl : k = l.length := by omega
      omega
  exact Ret.data rfl (by simp only [packA, lk, List.map, if_true]; first | rw [hf] | (simp [packA, lk, hf])) (.base _)
end Go.Ab
