/- Part of the proof. -/
import Derived.Test.YtjfahhbobiiphaaXO
import Derived.Test.YtjfahhbobiiphaaAbH
set_option linter.unusedSimpArgs false
set_option linter.unusedVariables false
set_option maxHeartbeats 4000000
namespace Go.Ab
open Go Go.Ab Go.Proofs Go.Ab.Ty

theorem lastG_spec {g : Nat → Bool} {a : Nat} : ∀ {k : Nat}, (lastG g a k = -1 ∧ ∀ j, a ≤ j → j < k → g j = false) ∨ ∃ j : Nat, lastG g a k = j ∧ a ≤ j ∧ j < k ∧ g j = true ∧ ∀ i, j < i → i < k → g i = false
  | 0 => .inl ⟨rfl, fun j _ h => by omega⟩
  | k + 1 => by
    rw [lastG]
    split
    · rename_i h
      exact .inr ⟨k, rfl, h.1, by omega, h.2, fun i h1 h2 => by omega⟩
    · rename_i h
      rcases lastG_spec (g := g) (a := a) (k := k) with ⟨h1, h2⟩ | ⟨j, h1, h2, h3, h4, h5⟩
      · refine .inl ⟨h1, fun j h3 h4 => ?_⟩
        by_cases e : j = k
        · subst e; simpa [h3] using h
        · exact h2 j h3 (by omega)
      · refine .inr ⟨j, h1, h2, by omega, h4, fun i h6 h7 => ?_⟩
        by_cases e : i = k
        · subst e
          have : a ≤ i := by omega
          simpa [this] using h
        · exact h5 i h6 (by omega)
def findO (f : Tb) (N : Nat) : Nat → Option (Nat × Nat)
  | 0 => none
  | k + 1 => if 0 ≤ lastG (f (N - (k + 1))) (N - (k + 1)) N then some (N - (k + 1), (lastG (f (N - (k + 1))) (N - (k + 1)) N).toNat) else findO f N k
theorem findO_some {f : Tb} {N : Nat} : ∀ {k a b : Nat}, k ≤ N → findO f N k = some (a, b) → N - k ≤ a ∧ a ≤ b ∧ b < N ∧ f a b = true ∧ lastG (f a) a N = b
  | 0, a, b, _, h => by cases h
  | k + 1, a, b, hk, h => by
    rw [findO] at h
    split at h
    · rename_i h0
      injection h with h
      injection h with h1 h2
      subst h1
      rcases lastG_spec (g := f (N - (k + 1))) (a := N - (k + 1)) (k := N) with ⟨h1, _⟩ | ⟨j, h3, h4, h5, h6, _⟩
      · omega
      · rw [h3] at h2 ⊢
        simp at h2
        subst h2
        exact ⟨by omega, h4, h5, h6, rfl⟩
    · have := findO_some (by omega) h
      exact ⟨by omega, this.2⟩
def encF : Option (Nat × Nat) → AV
  | none => .tup [.int (-1), .int (-1)]
  | some (a, b) => .tup [.int a, .int b]
theorem Pu_encF (o : Option (Nat × Nat)) : Pu (encF o) := by
  cases o <;> exact Pu_tup2 (.base _) (.base _)
theorem find_ok {N : Nat} (hN : 1 ≤ N ∧ N ≤ 1000) (f : Tb) (a : Nat) (ha : a ≤ N) : Fn Try.prog 67 [tabD N f, .int a] (encF (findO f N (N - a))) := by
  refine Fn.intro' [(0, tabD N f), (1, .int a)] 2 20 Try.func67 (by kernel_rfl) rfl rfl rfl rfl rfl ?_
  refine goA ?_
  refine AWp.loopP (J := fun k : Nat => k ≤ N ∧ findO f N (N - a) = findO f N k) (fun k => [(1, .int (N - k : Nat)), (6, .bad)]) (fun k => k) (N - a) ⟨by omega, rfl⟩ (by rw [show N - (N - a) = a by omega]; exact .wk) ?_
  rintro k ⟨hk, he⟩
  refine goA ?_
  refine ifA (fun hd => ?_) (fun hd => ?_)
  · simp at hd
    obtain ⟨j, rfl⟩ : ∃ j, k = j + 1 := ⟨k - 1, by omega⟩
    have i1 := longest_ok hN f (N - (j + 1)) (by omega)
    rw [findO] at he
    refine goA ?_
    refine callA (i1) ?_
    refine goA ?_
    refine ifA (fun hq => ?_) (fun hq => ?_)
    · simp at hq
      rw [if_pos hq] at he
      have e2 : ((lastG (f (N - (j + 1))) (N - (j + 1)) N).toNat : Int) = lastG (f (N - (j + 1))) (N - (j + 1)) N := by omega
      refine goA ?_
      exact Ret.data rfl (by rw [he]; simp [packA, lk, encF, e2]) (Pu_encF _)
    simp at hq
    rw [if_neg (by omega)] at he
    refine goA ?_
    rw [wrap_succ (by omega), show N - (j + 1) + 1 = N - j by omega]
    exact ⟨j, ⟨by omega, he⟩, by omega, .wk⟩
  simp at hd
  obtain rfl : k = 0 := by omega
  refine goA ?_
  exact Ret.data rfl (by rw [he]; rfl) (Pu_encF _)
def allG (f : Tb) (N : Nat) : Nat → Nat → Int → List (Nat × Nat)
  | 0, _, _ => []
  | u + 1, at_, behind => match findO f N (N - at_) with
    | none => []
    | some (a, b) => if a = b then (if (a : Int) = behind then [] else [(a, b)]) ++ allG f N u (b + 1) behind else (a, b) :: allG f N u b b
def goodL (f : Tb) (N : Nat) : Int → Int → List (Nat × Nat) → Prop
  | _, _, [] => True
  | t, p, (a, b) :: l => t ≤ a ∧ a ≤ b ∧ b < N ∧ (a : Int) ≠ p ∧ f a b = true ∧ goodL f N b a l
theorem allG_good {f : Tb} {N : Nat} : ∀ {u at_ : Nat} {behind t p : Int}, t ≤ at_ → p < at_ → goodL f N t p (allG f N u at_ behind)
  | 0, _, _, _, _, _, _ => trivial
  | u + 1, at_, behind, t, p, ht, hp => by
    rw [allG]
    split
    · trivial
    · rename_i a b he
      obtain ⟨h1, h2, h3, h4, _⟩ := findO_some (by omega) he
      have h5 : at_ ≤ a := by omega
      split
      · rename_i e
        subst e
        split
        · exact allG_good (by omega) (by omega)
        · exact ⟨by omega, h2, h3, by omega, h4, allG_good (by omega) (by omega)⟩
      · exact ⟨by omega, h2, h3, by omega, h4, allG_good (by omega) (by omega)⟩
def encP (p : Nat × Nat) : AV := .agg [.int p.1, .int p.2]
theorem Pu_cP (p : Nat × Nat) : ∀ c ∈ (encP p).cells, Pu c := fun c hc => by
  simp only [encP, AV.cells, List.mem_cons, List.not_mem_nil, or_false] at hc
  rcases hc with rfl | rfl <;> exact .base _
@[simp] theorem Pu_mapP (l : List (Nat × Nat)) : Pu (.lst (l.map encP)) := .lst fun e he c hc => by
  obtain ⟨x, _, rfl⟩ := List.mem_map.1 he
  exact Pu_cP x c hc
theorem allP_ok {N : Nat} (hN : 1 ≤ N ∧ N ≤ 1000) (f : Tb) : Fn Try.prog 66 [tabD N f] (.lst ((allG f N (N + 1) 0 (-1)).map encP)) := by
  obtain ⟨R, hR⟩ : ∃ R, R = allG f N (N + 1) 0 (-1) := ⟨_, rfl⟩
  rw [← hR]
  refine Fn.intro' [(0, tabD N f)] 1 43 Try.func66 (by kernel_rfl) rfl rfl rfl rfl rfl ?_
  refine goA ?_
  refine AWp.loop (J := fun x : Nat × Nat × Int × List (Nat × Nat) => N - x.2.1 < x.1 ∧ x.2.1 ≤ N ∧ x.1 + x.2.2.2.length ≤ N + 1 ∧ R = x.2.2.2 ++ allG f N x.1 x.2.1 x.2.2.1)
    (fun x => ⟨[(3, .own 0 x.2.2.2.length 0 x.2.2.2.length), (4, .int x.2.2.1), (5, .int x.2.1), (0, tabD N f)], [(⟨43, 2, x.2.2.2.map encP⟩ : ABlk)]⟩) (fun x => x.1) (N + 1, 0, -1, []) ⟨by simp only; omega, by simp only; omega, by simp, hR⟩ (.nil 43 2 (by simp [List.forall_mem_cons, lk, Le.refl])) ?_
  rintro ⟨u, at_, behind, out⟩ ⟨hu, hat, hol, he⟩
  simp only at hu hat hol he ⊢
  refine goA ?_
  refine ifA (fun hd => ?_) (fun hd => ?_)
  · simp at hd
    obtain ⟨v, rfl⟩ : ∃ v, u = v + 1 := ⟨u - 1, by omega⟩
    have i1 := find_ok hN f at_ (by omega)
    rw [allG] at he
    rcases hf : findO f N (N - at_) with _ | ⟨a, b⟩
    · rw [hf] at i1 he
      simp only [encF] at i1
      refine goA ?_
      refine callA (i1) ?_
      refine goA ?_
      refine ifA (fun h => ?_) (fun h => ?_)
      · refine goA ?_
        exact Ret.pub rfl (by rw [he, List.append_nil]; exact Pub.ownM (by decide) rfl rfl fun x _ => Pu_cP x)
      simp at h
    obtain ⟨h1, h2, h3, _, _⟩ := findO_some (by omega) hf
    rw [hf] at i1 he
    simp only [encF] at i1
    simp only at he
    have happ : (out ++ [(a, b)]).map encP = out.map encP ++ [encP (a, b)] := by simp
    have hln : (out ++ [(a, b)]).length = out.length + 1 := by simp
    refine goA ?_
    refine callA (i1) ?_
    refine goA ?_
    refine ifA (fun hneg => ?_) (fun hneg => ?_)
    · simp at hneg; omega
    refine goA ?_
    refine ifA (fun heq => ?_) (fun heq => ?_)
    · simp at heq
      obtain rfl : a = b := by omega
      rw [if_pos rfl] at he
      refine goA ?_
      refine ifA (fun hbh => ?_) (fun hbh => ?_)
      · simp at hbh
        rw [if_neg hbh] at he
        refine goA ?_
        refine ARun.q1 rfl rfl (ql_buildA (cs := [.int a, .int a]) Try.underlying43 sz3 zero43 (by simp only [placesA_2]; rfl)) ?_
        refine goA ?_
        refine bslA Try.underlying40 sz43 ?_
        refine goA ?_
        refine ARun.p1 rfl rfl (pl_append (b := 0) (tot := out.length) (es := [encP (a, a)]) (by simp +decide only [go_sem] <;> rfl) (by simp +decide only [go_sem] <;> rfl) (by simp +decide only [go_sem] <;> rfl) (by simp) Try.underlying40 el43 rfl rfl (by simp) (fun e he => by rw [List.mem_singleton] at he; subst he; exact ⟨rfl, rfl⟩) (by simp; omega) (by simp; omega)) ?_
        refine goA ?_
        rw [wrap_succ (by omega)]
        refine ⟨(v, a + 1, behind, out ++ [(a, a)]), ⟨by simp only; omega, by simp only; omega, by simp only; rw [hln]; omega, by rw [he]; simp⟩, by simp only; omega, ?_⟩
        simp only [hln, happ]
        exact .wk
      simp at hbh
      rw [if_pos hbh, List.nil_append] at he
      refine goA ?_
      rw [wrap_succ (by omega)]
      exact ⟨(v, a + 1, behind, out), ⟨by simp only; omega, by simp only; omega, by simp only; omega, he⟩, by simp only; omega, .wk⟩
    simp at heq
    rw [if_neg (by omega)] at he
    refine goA ?_
    refine ARun.q1 rfl rfl (ql_buildA (cs := [.int a, .int b]) Try.underlying43 sz3 zero43 (by simp only [placesA_2]; rfl)) ?_
    refine goA ?_
    refine bslA Try.underlying40 sz43 ?_
    refine goA ?_
    refine ARun.p1 rfl rfl (pl_append (b := 0) (tot := out.length) (es := [encP (a, b)]) (by simp +decide only [go_sem] <;> rfl) (by simp +decide only [go_sem] <;> rfl) (by simp +decide only [go_sem] <;> rfl) (by simp) Try.underlying40 el43 rfl rfl (by simp) (fun e he => by rw [List.mem_singleton] at he; subst he; exact ⟨rfl, rfl⟩) (by simp; omega) (by simp; omega)) ?_
    refine goA ?_
    refine ⟨(v, b, (b : Int), out ++ [(a, b)]), ⟨by simp only; omega, by simp only; omega, by simp only; rw [hln]; omega, by rw [he]; simp⟩, by simp only; omega, ?_⟩
    simp only [hln, happ]
    exact .wk
  simp at hd
  have : allG f N u at_ behind = [] := by
    cases u with
    | zero => rfl
    | succ u => rw [allG, show N - at_ = 0 by omega]; rfl
  rw [this, List.append_nil] at he
  refine goA ?_
  exact Ret.pub rfl (by rw [he]; exact Pub.ownM (by decide) rfl rfl fun x _ => Pu_cP x)
end Go.Ab
set_option maxHeartbeats 4000000
namespace Go.Ab
open Go Go.Ab Go.Proofs Go.Ab.Ty

def Corr (a m : Nat) (A B : Rl) : Prop := ∀ i j, i ≤ j → j ≤ m → (A i j ↔ B (a + i) (a + j))
def Mon (A : Rl) : Prop := ∀ i j, A i j → i ≤ j
theorem Mon.comp {A B : Rl} (ha : Mon A) (hb : Mon B) : Mon (comp A B) := fun i j ⟨k, h1, h2⟩ => Nat.le_trans (ha _ _ h1) (hb _ _ h2)
theorem Mon.step {o : Int} {A B : Rl} (ha : Mon A) (hb : Mon B) : Mon (stepR o A B) := by
  unfold stepR
  split
  · exact ha.comp hb
  split
  · exact fun i j h => h.elim (ha i j) (hb i j)
  · exact fun i j h => ha i j h.1
theorem Mon.M (s : ByteArray) (r : Rx) : Mon (M s r) := fun i j h => (M_fwd s r i j h).1
section
variable {a m : Nat}
theorem Corr.comp {A1 A2 B1 B2 : Rl} (h1 : Corr a m A1 B1) (h2 : Corr a m A2 B2) (m1 : Mon A1) (m2 : Mon A2) (n1 : Mon B1) (n2 : Mon B2) : Corr a m (comp A1 A2) (comp B1 B2) := fun i j hij hj => by
  constructor
  · rintro ⟨k, k1, k2⟩
    have e1 := m1 _ _ k1
    have e2 := m2 _ _ k2
    exact ⟨a + k, (h1 i k e1 (by omega)).1 k1, (h2 k j e2 hj).1 k2⟩
  · rintro ⟨k, k1, k2⟩
    have e1 := n1 _ _ k1
    have e2 := n2 _ _ k2
    obtain ⟨p, rfl⟩ : ∃ p, k = a + p := ⟨k - a, by omega⟩
    exact ⟨p, (h1 i p (by omega) (by omega)).2 k1, (h2 p j (by omega) hj).2 k2⟩
theorem Corr.step {o : Int} {A1 A2 B1 B2 : Rl} (h1 : Corr a m A1 B1) (h2 : Corr a m A2 B2) (m1 : Mon A1) (m2 : Mon A2) (n1 : Mon B1) (n2 : Mon B2) : Corr a m (stepR o A1 A2) (stepR o B1 B2) := by
  unfold stepR
  split
  · exact h1.comp h2 m1 m2 n1 n2
  split
  · exact fun i j hij hj => or_congr (h1 i j hij hj) (h2 i j hij hj)
  · exact fun i j hij hj => and_congr (h1 i j hij hj) (h2 i j hij hj)
theorem Corr.foldl {s t : ByteArray} {o : Int} : ∀ {l : List Rx} {A B : Rl}, (∀ x ∈ l, Corr a m (M t x) (M s x)) → Corr a m A B → Mon A → Mon B → Corr a m ((l.map (M t)).foldl (stepR o) A) ((l.map (M s)).foldl (stepR o) B)
  | [], A, B, _, h, _, _ => h
  | x :: l, A, B, hl, h, ma, mb => Corr.foldl (l := l) (fun y hy => hl y (by simp [hy])) (h.step (hl x (by simp)) ma (.M t x) mb (.M s x)) (ma.step (.M t x)) (mb.step (.M s x))
theorem Star.mon {A : Rl} (ha : Mon A) {i j : Nat} (h : Star A i j) : i ≤ j := by
  induction h with
  | refl => exact Nat.le_refl _
  | step h _ ih => have := ha _ _ h; omega
theorem Corr.star {A B : Rl} (h : Corr a m A B) (ma : Mon A) (mb : Mon B) : Corr a m (Star A) (Star B) := fun i j hij hj => by
  constructor
  · intro hs
    induction hs with
    | refl => exact .refl _
    | @step i k j h1 h2 ih =>
      have e1 := ma _ _ h1
      have e2 := h2.mon ma
      exact .step ((h i k e1 (by omega)).1 h1) (ih e2 hj)
  · intro hs
    generalize hx : a + i = x at hs
    generalize hy : a + j = y at hs
    induction hs generalizing i with
    | refl =>
      obtain rfl : i = j := by omega
      exact .refl _
    | @step x k y h1 h2 ih =>
      have e1 := mb _ _ h1
      have e2 := h2.mon mb
      obtain ⟨p, rfl⟩ : ∃ p, k = a + p := ⟨k - a, by omega⟩
      subst hx
      exact .step ((h i p (by omega) (by omega)).2 h1) (ih p (by omega) rfl hy)
end
theorem M_sub (s : ByteArray) {a b : Nat} (hab : a ≤ b) (hb : b ≤ s.size) (r : Rx) : Corr a (b - a) (M (s.extract a b) r) (M s r) := by
  have hsz : (s.extract a b).size = b - a := by rw [ByteArray.size_extract]; omega
  induction r using Rx.ind with
  | h o S l ih =>
  rw [M_mk, M_mk]
  intro i j hij hj
  have h3 : (∃ h : i < (s.extract a b).size, isIn S (s.extract a b)[i]) ∧ j = i + 1 ↔ (∃ h : a + i < s.size, isIn S s[a + i]) ∧ j = i + 1 := by
    constructor
    · rintro ⟨⟨h, hi⟩, e⟩
      rw [ByteArray.getElem_extract] at hi
      exact ⟨⟨by omega, hi⟩, e⟩
    · rintro ⟨⟨h, hi⟩, e⟩
      refine ⟨⟨by omega, ?_⟩, e⟩
      rw [ByteArray.getElem_extract]; exact hi
  have h4 : foldR o (l.map (M (s.extract a b))) i j ↔ foldR o (l.map (M s)) (a + i) (a + j) := by
    cases l with
    | nil => exact Iff.rfl
    | cons x l => exact Corr.foldl (fun y hy => ih y (by simp [hy])) (ih x (by simp)) (.M _ x) (.M _ x) i j hij hj
  have h6 : Star ((l.map (M (s.extract a b))).headD noR) i j ↔ Star ((l.map (M s)).headD noR) (a + i) (a + j) := by
    cases l with
    | nil => exact Corr.star (a := a) (m := b - a) (A := noR) (B := noR) (fun _ _ _ _ => Iff.rfl) (fun _ _ h => h.elim) (fun _ _ h => h.elim) i j hij hj
    | cons x l => exact (ih x (by simp)).star (.M _ x) (.M _ x) i j hij hj
  have h8 : (l.map (M (s.extract a b))).headD noR i j ↔ (l.map (M s)).headD noR (a + i) (a + j) := by
    cases l with
    | nil => exact Iff.rfl
    | cons x l => exact ih x (by simp) i j hij hj
  unfold opM
  rw [h4, h6, h8]
  constructor
  · rintro ⟨e1, e2, e3⟩
    refine ⟨by omega, by omega, ?_⟩
    rcases e3 with e | e | e | e | e
    · exact .inl ⟨e.1, by omega⟩
    · obtain ⟨⟨q1, q2⟩, _⟩ := h3.1 ⟨e.2.2, e.2.1⟩
      exact .inr (.inl ⟨e.1, by omega, q1, q2⟩)
    · exact .inr (.inr (.inl e))
    · exact .inr (.inr (.inr (.inl e)))
    · exact .inr (.inr (.inr (.inr e)))
  · rintro ⟨e1, e2, e3⟩
    refine ⟨hij, by omega, ?_⟩
    rcases e3 with e | e | e | e | e
    · exact .inl ⟨e.1, by omega⟩
    · have ej : j = i + 1 := by omega
      obtain ⟨⟨q1, q2⟩, _⟩ := h3.2 ⟨e.2.2, ej⟩
      exact .inr (.inl ⟨e.1, ej, q1, q2⟩)
    · exact .inr (.inr (.inl e))
    · exact .inr (.inr (.inr (.inl e)))
    · exact .inr (.inr (.inr (.inr e)))
theorem isTx_sub {s : ByteArray} (h : isTx s) {a b : Nat} (hab : a ≤ b) (hb : b ≤ s.size) : isTx (s.extract a b) := by
  have hsz : (s.extract a b).size = b - a := by rw [ByteArray.size_extract]; omega
  refine ⟨by have := h.1; omega, fun i hi => ?_⟩
  rw [ByteArray.getElem_extract]
  exact h.2 _ (by omega)
theorem matA_sub {r : Rx} {s : ByteArray} (hf : fit r s) {a b : Nat} (hab : a ≤ b) (hb : b ≤ s.size) : matA r (s.extract a b) = .tup [.bool (tb (M s r) a b), .int 0] := by
  have hsz : (s.extract a b).size = b - a := by rw [ByteArray.size_extract]; omega
  rw [matA_t ⟨hf.1, isTx_sub hf.2 hab hb⟩]
  have := M_sub s hab hb r 0 (b - a) (Nat.zero_le _) (Nat.le_refl _)
  rw [Nat.add_zero, show a + (b - a) = b by omega] at this
  have e : tb (M (s.extract a b) r) 0 (s.extract a b).size = tb (M s r) a b := by
    rw [Bool.eq_iff_iff]; simp only [tb, decide_eq_true_eq]; rw [hsz]; exact this
  rw [e]
end Go.Ab
