/- Part of the proof. -/
import Derived.Test.YtjfahhbobiiphaaXP
import Derived.Test.YtjfahhbobiiphaaXM
set_option linter.unusedSimpArgs false
set_option linter.unusedVariables false
set_option maxHeartbeats 4000000
namespace Go.Ab
open Go Go.Ab Go.Proofs Go.Ab.Ty

/-! ### what is left of an expression behind a byte (plain) -/
abbrev rxN : Rx := .mk 1 ByteArray.empty []
abbrev rxE : Rx := .mk 2 ByteArray.empty []
def seqR : List Rl → Rl
  | [] => fun i j => i = j
  | R :: l => fun i j => ∃ k, R i k ∧ seqR l k j
theorem seqR_app (a b : List Rl) (i j : Nat) : seqR (a ++ b) i j ↔ ∃ k, seqR a i k ∧ seqR b k j := by
  induction a generalizing i with
  | nil => simp [seqR]
  | cons R a ih => simp only [List.cons_append, seqR, ih]; grind
theorem foldl_cat (l : List Rl) (A : Rl) (i j : Nat) : l.foldl (stepR 4) A i j ↔ ∃ k, A i k ∧ seqR l k j := by
  induction l generalizing A with
  | nil => simp [seqR]
  | cons R l ih =>
    rw [List.foldl_cons, ih]
    simp only [stepR, if_pos rfl, seqR]
    constructor
    · rintro ⟨k, ⟨m, h1, h2⟩, h3⟩; exact ⟨m, h1, k, h2, h3⟩
    · rintro ⟨m, h1, k, h2, h3⟩; exact ⟨k, ⟨m, h1, h2⟩, h3⟩
theorem seqR_le {s : ByteArray} {l : List Rx} {i j : Nat} (h : seqR (l.map (M s)) i j) : i ≤ j := by
  induction l generalizing i with
  | nil => exact Nat.le_of_eq h
  | cons x l ih =>
    obtain ⟨k, h1, h2⟩ := h
    have := (M_fwd s x _ _ h1).1
    have := ih h2
    omega
theorem seqR_lt {s : ByteArray} {l : List Rx} (hl : l ≠ []) {i j : Nat} (h : seqR (l.map (M s)) i j) : j < s.size + 1 := by
  induction l generalizing i with
  | nil => exact absurd rfl hl
  | cons x l ih =>
    obtain ⟨k, h1, h2⟩ := h
    have := (M_fwd s x _ _ h1).2
    cases l with
    | nil => have : k = j := h2; omega
    | cons y l => exact ih (by simp) h2
theorem M_cat {s S : ByteArray} {l : List Rx} (hl : l ≠ []) {i j : Nat} : M s (.mk 4 S l) i j ↔ seqR (l.map (M s)) i j := by
  rw [M_mk]; unfold opM
  have h1 : foldR 4 (l.map (M s)) i j ↔ seqR (l.map (M s)) i j := by
    cases l with
    | nil => exact absurd rfl hl
    | cons x l => rw [List.map_cons, foldR, foldl_cat]; rfl
  constructor
  · rintro ⟨_, _, h⟩
    rw [← h1]; grind
  · intro h
    exact ⟨seqR_le h, seqR_lt hl h, .inr (.inr (.inl ⟨by omega, h1.2 h⟩))⟩
def semR (s : ByteArray) (o : Int) (l : List Rx) : Rl := fun i j => if o = 4 then seqR (l.map (M s)) i j else if o = 5 then ∃ y ∈ l, M s y i j else ∀ y ∈ l, M s y i j
theorem M_sem {s S : ByteArray} {o : Int} (ho : o = 4 ∨ o = 5 ∨ o = 7) {l : List Rx} (hl : l ≠ []) {i j : Nat} (hj : j < s.size + 1) : M s (.mk o S l) i j ↔ semR s o l i j := by
  unfold semR
  rcases ho with rfl | rfl | rfl
  · rw [if_pos rfl]; exact M_cat hl
  · rw [if_neg (by omega), if_pos rfl]; exact M_or hj
  · rw [if_neg (by omega), if_neg (by omega)]; exact M_and hl hj
theorem semR_nest {s S : ByteArray} {o : Int} (ho : o = 4 ∨ o = 5 ∨ o = 7) {a b : List Rx} (hb : b ≠ []) {i j : Nat} (hj : j < s.size + 1) : semR s o (a ++ [.mk o S b]) i j ↔ semR s o (a ++ b) i j := by
  unfold semR
  rcases ho with rfl | rfl | rfl
  · rw [if_pos rfl, if_pos rfl, List.map_append, List.map_append, seqR_app, seqR_app]
    simp only [List.map_cons, List.map_nil, seqR]
    constructor
    · rintro ⟨k, h1, k2, h2, rfl⟩; exact ⟨k, h1, (M_cat hb).1 h2⟩
    · rintro ⟨k, h1, h2⟩; exact ⟨k, h1, j, (M_cat hb).2 h2, rfl⟩
  · rw [if_neg (by omega), if_pos rfl, if_neg (by omega), if_pos rfl]
    simp only [List.mem_append, List.mem_singleton, or_and_right, exists_or, exists_eq_left]
    rw [M_or hj]
  · rw [if_neg (by omega), if_neg (by omega), if_neg (by omega), if_neg (by omega)]
    simp only [List.mem_append, List.mem_singleton, or_imp, forall_and, forall_eq]
    rw [M_and hb hj]
def grpL (o : Int) : Nat → List Rx → List Rx
  | 0, l => l
  | k + 1, l => if 8 < l.length then grpL o k (l.take (l.length - min (l.length - 7) 8) ++ [.mk o ByteArray.empty (l.drop (l.length - min (l.length - 7) 8))]) else l
def grp (o : Int) (l : List Rx) : Rx := .mk o ByteArray.empty (grpL o l.length l)
theorem grpL_small {o : Int} {k : Nat} {l : List Rx} (h : l.length ≤ 8) : grpL o k l = l := by
  cases k with
  | zero => rfl
  | succ k => rw [grpL, if_neg (by omega)]
theorem grpL_sem {s : ByteArray} {o : Int} (ho : o = 4 ∨ o = 5 ∨ o = 7) {i j : Nat} (hj : j < s.size + 1) : ∀ (k : Nat) (l : List Rx), semR s o (grpL o k l) i j ↔ semR s o l i j
  | 0, l => Iff.rfl
  | k + 1, l => by
    rw [grpL]
    split
    · rename_i h
      rw [grpL_sem ho hj k, semR_nest ho (by intro e; have := congrArg List.length e; simp at this; omega) hj, List.take_append_drop]
    · rfl
theorem grpL_len {o : Int} : ∀ (k : Nat) (l : List Rx), l.length ≤ k + 8 → (grpL o k l).length ≤ 8 ∧ (2 ≤ l.length → 2 ≤ (grpL o k l).length)
  | 0, l, h => ⟨h, id⟩
  | k + 1, l, h => by
    rw [grpL]
    split
    · have hl : (l.take (l.length - min (l.length - 7) 8) ++ [Rx.mk o ByteArray.empty (l.drop (l.length - min (l.length - 7) 8))]).length = l.length - min (l.length - 7) 8 + 1 := by simp
      have := grpL_len (o := o) k (l.take (l.length - min (l.length - 7) 8) ++ [.mk o ByteArray.empty (l.drop (l.length - min (l.length - 7) 8))]) (by omega)
      exact ⟨this.1, fun _ => this.2 (by omega)⟩
    · exact ⟨by omega, id⟩
theorem e_size : ByteArray.empty.size = 0 := rfl
theorem nodeOk_j {o : Int} (ho : o = 4 ∨ o = 5 ∨ o = 7) {n : Nat} (h : 2 ≤ n ∧ n ≤ 8) : nodeOk o ByteArray.empty n := by
  unfold nodeOk
  rw [if_neg (by omega)]
  exact ⟨e_size, .inr (.inl ⟨ho, h⟩)⟩
theorem grpL_wf {o : Int} (ho : o = 4 ∨ o = 5 ∨ o = 7) : ∀ (k : Nat) (l : List Rx), (∀ x ∈ l, x.wf) → ∀ x ∈ grpL o k l, x.wf
  | 0, l, h => h
  | k + 1, l, h => by
    rw [grpL]
    split
    · refine grpL_wf ho k _ fun x hx => ?_
      rcases List.mem_append.1 hx with hx | hx
      · exact h x (List.mem_of_mem_take hx)
      · obtain rfl := List.mem_singleton.1 hx
        exact wf_sub.2 ⟨nodeOk_j ho (by simp <;> omega), fun y hy => h y (List.mem_of_mem_drop hy)⟩
    · exact h
theorem grp_wf {o : Int} (ho : o = 4 ∨ o = 5 ∨ o = 7) {l : List Rx} (h2 : 2 ≤ l.length) (h : ∀ x ∈ l, x.wf) : (grp o l).wf := by
  have := grpL_len (o := o) l.length l (by omega)
  exact wf_sub.2 ⟨nodeOk_j ho ⟨this.2 h2, this.1⟩, grpL_wf ho _ _ h⟩
theorem grp_M {s : ByteArray} {o : Int} (ho : o = 4 ∨ o = 5 ∨ o = 7) {l : List Rx} (h2 : 2 ≤ l.length) {i j : Nat} (hj : j < s.size + 1) : M s (grp o l) i j ↔ semR s o l i j := by
  have := grpL_len (o := o) l.length l (by omega)
  rw [grp, M_sem ho (by intro e; rw [e] at this; simp at this; omega) hj, grpL_sem ho hj]
/-! #### cat -/
def catA (r : Rx) : List Rx := if r.op = 2 then [] else if r.op = 4 then r.subs else [r]
def catL : List Rx → List Rx
  | [] => []
  | r :: l => catA r ++ catL l
def finX (o z : Int) (l : List Rx) : Rx := match l with
  | [] => .mk z ByteArray.empty []
  | [x] => x
  | x :: y :: l => grp o (x :: y :: l)
def isN (r : Rx) : Bool := decide (r.op = 1)
def catX (l : List Rx) : Rx := match l.find? isN with
  | some r => r
  | none => finX 4 2 (catL l)
theorem wf_op1 {r : Rx} (h : r.wf) (ho : r.op = 1) : ∃ S, r = .mk 1 S [] := by
  obtain ⟨o, S, l⟩ := r
  have : o = 1 := ho
  subst this
  have := (wf_sub.1 h).1
  unfold nodeOk at this
  rw [if_neg (by omega)] at this
  have hl : l = [] := List.eq_nil_of_length_eq_zero (by omega)
  exact ⟨S, by rw [hl]⟩
theorem wf_op2 {r : Rx} (h : r.wf) (ho : r.op = 2) : ∃ S, r = .mk 2 S [] := by
  obtain ⟨o, S, l⟩ := r
  have : o = 2 := ho
  subst this
  have := (wf_sub.1 h).1
  unfold nodeOk at this
  rw [if_neg (by omega)] at this
  have hl : l = [] := List.eq_nil_of_length_eq_zero (by omega)
  exact ⟨S, by rw [hl]⟩
theorem wf_opJ {r : Rx} (h : r.wf) {o : Int} (ho : o = 4 ∨ o = 5 ∨ o = 7) (hr : r.op = o) : ∃ S l, r = .mk o S l ∧ 2 ≤ l.length ∧ l.length ≤ 8 ∧ ∀ x ∈ l, x.wf := by
  obtain ⟨o', S, l⟩ := r
  have : o' = o := hr
  subst this
  have h1 := (wf_sub.1 h).1
  unfold nodeOk at h1
  rw [if_neg (by omega)] at h1
  exact ⟨S, l, rfl, by omega, by omega, (wf_sub.1 h).2⟩
theorem M_op1 {s : ByteArray} {r : Rx} (h : r.op = 1) {i j : Nat} : ¬ M s r i j := by
  obtain ⟨o, S, l⟩ := r
  have : o = 1 := h
  subst this
  exact M_1
theorem catA_wf {r : Rx} (h : r.wf) : ∀ x ∈ catA r, x.wf := by
  unfold catA
  split
  · simp
  split
  · rename_i h2
    obtain ⟨S, l, rfl, _, _, h3⟩ := wf_opJ h (.inl rfl) h2
    exact h3
  · simpa using h
theorem catL_wf {l : List Rx} (h : ∀ x ∈ l, x.wf) : ∀ x ∈ catL l, x.wf := by
  induction l with
  | nil => simp [catL]
  | cons r l ih =>
    intro x hx
    rcases List.mem_append.1 hx with hx | hx
    · exact catA_wf (h r (by simp)) x hx
    · exact ih (fun y hy => h y (by simp [hy])) x hx
theorem finX_wf {o z : Int} (ho : o = 4 ∨ o = 5 ∨ o = 7) (hz : z = 1 ∨ z = 2) {l : List Rx} (h : ∀ x ∈ l, x.wf) : (finX o z l).wf := by
  unfold finX
  split
  · refine wf_sub.2 ⟨?_, by simp⟩
    unfold nodeOk
    rw [if_neg (by omega)]
    exact ⟨e_size, .inl ⟨hz, rfl⟩⟩
  · exact h _ (by simp)
  · exact grp_wf ho (by simp) h
theorem catX_wf {l : List Rx} (h : ∀ x ∈ l, x.wf) : (catX l).wf := by
  unfold catX
  split
  · rename_i r hr; exact h r (List.mem_of_find?_eq_some hr)
  · exact finX_wf (.inl rfl) (.inr rfl) (catL_wf h)
theorem catA_M {s : ByteArray} {r : Rx} (h : r.wf) (h1 : r.op ≠ 1) {i k : Nat} (hk : k < s.size + 1) : seqR ((catA r).map (M s)) i k ↔ M s r i k := by
  unfold catA
  split
  · rename_i h2
    obtain ⟨S, rfl⟩ := wf_op2 h h2
    rw [M_2 hk]; rfl
  split
  · rename_i h2
    obtain ⟨S, l, rfl, h3, _⟩ := wf_opJ h (.inl rfl) h2
    rw [M_cat (by intro e; rw [e] at h3; simp at h3)]; rfl
  · simp [seqR]
theorem catL_M {s : ByteArray} {l : List Rx} (h : ∀ x ∈ l, x.wf) (h1 : ∀ x ∈ l, x.op ≠ 1) {i j : Nat} (hj : j < s.size + 1) : seqR ((catL l).map (M s)) i j ↔ seqR (l.map (M s)) i j := by
  induction l generalizing i with
  | nil => exact Iff.rfl
  | cons r l ih =>
    rw [catL, List.map_append, seqR_app]
    rw [List.map_cons, seqR]
    have ih := fun i => ih (i := i) (fun y hy => h y (by simp [hy])) (fun y hy => h1 y (by simp [hy]))
    constructor
    · rintro ⟨k, h2, h3⟩
      have := seqR_le h3
      exact ⟨k, (catA_M (h r (by simp)) (h1 r (by simp)) (by omega)).1 h2, (ih k).1 h3⟩
    · rintro ⟨k, h2, h3⟩
      have := seqR_le h3
      exact ⟨k, (catA_M (h r (by simp)) (h1 r (by simp)) (by omega)).2 h2, (ih k).2 h3⟩
theorem seqR_no {s : ByteArray} {l : List Rx} {r : Rx} (hr : r ∈ l) (h : r.op = 1) {i j : Nat} : ¬ seqR (l.map (M s)) i j := by
  induction l generalizing i with
  | nil => simp at hr
  | cons x l ih =>
    rintro ⟨k, h1, h2⟩
    rcases List.mem_cons.1 hr with rfl | hr
    · exact M_op1 h h1
    · exact ih hr h2
theorem find_isN {l : List Rx} : (∃ r, l.find? isN = some r ∧ r ∈ l ∧ r.op = 1) ∨ (l.find? isN = none ∧ ∀ x ∈ l, x.op ≠ 1) := by
  cases h : l.find? isN with
  | some r =>
    have := List.find?_some h
    exact .inl ⟨r, rfl, List.mem_of_find?_eq_some h, by simpa [isN] using this⟩
  | none =>
    refine .inr ⟨rfl, fun x hx => ?_⟩
    have := List.find?_eq_none.1 h x hx
    simpa [isN] using this
theorem catX_M {s : ByteArray} {l : List Rx} (h : ∀ x ∈ l, x.wf) {i j : Nat} (hj : j < s.size + 1) : M s (catX l) i j ↔ seqR (l.map (M s)) i j := by
  unfold catX
  rcases find_isN (l := l) with ⟨r, e, hm, h1⟩ | ⟨e, h1⟩
  · rw [e]
    exact ⟨fun h2 => (M_op1 h1 h2).elim, fun h2 => (seqR_no hm h1 h2).elim⟩
  · rw [e, ← catL_M h h1 hj]
    simp only
    unfold finX
    generalize catL l = L
    match L with
    | [] => exact M_2 hj
    | [x] => simp [seqR]
    | x :: y :: L => simp only; rw [grp_M (.inl rfl) (by simp) hj, semR, if_pos rfl]
/-! #### choose -/
def chA (o : Int) (r : Rx) : List Rx := if r.op = o then r.subs else [r]
def chL (o : Int) : List Rx → List Rx
  | [] => []
  | r :: l => chA o r ++ chL o l
open Classical in
noncomputable def chO : List Rx → List Rx → List Rx
  | out, [] => out
  | out, x :: l => if x.op ≠ 1 ∧ x ∉ out then chO (out ++ [x]) l else chO out l
noncomputable def chX (o : Int) (l : List Rx) : Rx := match (if o = 7 then (chL o l).find? isN else none) with
  | some r => r
  | none => finX o 1 (chO [] (chL o l))
theorem mem_chO {y : Rx} : ∀ {l out : List Rx}, y ∈ chO out l ↔ y ∈ out ∨ (y ∈ l ∧ y.op ≠ 1)
  | [], out => by simp [chO]
  | x :: l, out => by
    rw [chO]
    split
    · rw [mem_chO]; simp only [List.mem_append, List.mem_singleton, List.mem_cons]; grind
    · rw [mem_chO]; simp only [List.mem_cons]; grind
theorem chA_wf {o : Int} (ho : o = 4 ∨ o = 5 ∨ o = 7) {r : Rx} (h : r.wf) : ∀ x ∈ chA o r, x.wf := by
  unfold chA
  split
  · rename_i h2
    obtain ⟨S, l, rfl, _, _, h3⟩ := wf_opJ h ho h2
    exact h3
  · simpa using h
theorem chL_wf {o : Int} (ho : o = 4 ∨ o = 5 ∨ o = 7) {l : List Rx} (h : ∀ x ∈ l, x.wf) : ∀ x ∈ chL o l, x.wf := by
  induction l with
  | nil => simp [chL]
  | cons r l ih =>
    intro x hx
    rcases List.mem_append.1 hx with hx | hx
    · exact chA_wf ho (h r (by simp)) x hx
    · exact ih (fun y hy => h y (by simp [hy])) x hx
theorem chX_wf {o : Int} (ho : o = 5 ∨ o = 7) {l : List Rx} (h : ∀ x ∈ l, x.wf) : (chX o l).wf := by
  have hL := chL_wf (o := o) (by omega) h
  unfold chX
  split
  · rename_i r hr
    split at hr
    · exact hL r (List.mem_of_find?_eq_some hr)
    · cases hr
  · exact finX_wf (by omega) (.inl rfl) fun x hx => hL x (by have := mem_chO.1 hx; simp at this; exact this.1)
theorem finX_M {s : ByteArray} {l : List Rx} {i j : Nat} (hj : j < s.size + 1) : M s (finX 5 1 l) i j ↔ ∃ y ∈ l, M s y i j := by
  unfold finX
  match l with
  | [] => simpa using M_1
  | [x] => simp
  | x :: y :: L => simp only; rw [grp_M (.inr (.inl rfl)) (by simp) hj, semR, if_neg (by omega), if_pos rfl]
theorem finX_M7 {s : ByteArray} {l : List Rx} (hl : l ≠ []) {i j : Nat} (hj : j < s.size + 1) : M s (finX 7 1 l) i j ↔ ∀ y ∈ l, M s y i j := by
  unfold finX
  match l with
  | [] => exact absurd rfl hl
  | [x] => simp
  | x :: y :: L => simp only; rw [grp_M (.inr (.inr rfl)) (by simp) hj, semR, if_neg (by omega), if_neg (by omega)]
theorem chL_M5 {s : ByteArray} {l : List Rx} (h : ∀ x ∈ l, x.wf) {i j : Nat} (hj : j < s.size + 1) : (∃ y ∈ chL 5 l, M s y i j) ↔ ∃ y ∈ l, M s y i j := by
  induction l with
  | nil => simp [chL]
  | cons r l ih =>
    have ih := ih fun y hy => h y (by simp [hy])
    have hr : (∃ y ∈ chA 5 r, M s y i j) ↔ M s r i j := by
      unfold chA
      split
      · rename_i h2
        obtain ⟨S, l, rfl, _⟩ := wf_opJ (h r (by simp)) (.inr (.inl rfl)) h2
        exact (M_or hj).symm
      · simp
    simp only [chL, List.mem_append, List.mem_cons, or_and_right, exists_or, exists_eq_left]
    rw [hr, ih]
theorem chL_M7 {s : ByteArray} {l : List Rx} (h : ∀ x ∈ l, x.wf) {i j : Nat} (hj : j < s.size + 1) : (∀ y ∈ chL 7 l, M s y i j) ↔ ∀ y ∈ l, M s y i j := by
  induction l with
  | nil => simp [chL]
  | cons r l ih =>
    have ih := ih fun y hy => h y (by simp [hy])
    have hr : (∀ y ∈ chA 7 r, M s y i j) ↔ M s r i j := by
      unfold chA
      split
      · rename_i h2
        obtain ⟨S, l, rfl, h3, _⟩ := wf_opJ (h r (by simp)) (.inr (.inr rfl)) h2
        exact (M_and (by intro e; have e : l = [] := e; rw [e] at h3; simp at h3) hj).symm
      · simp
    simp only [chL, List.mem_append, List.mem_cons, or_imp, forall_and, forall_eq]
    rw [hr, ih]
theorem chL_ne {l : List Rx} (h : ∀ x ∈ l, x.wf) {o : Int} (ho : o = 4 ∨ o = 5 ∨ o = 7) (hl : l ≠ []) : chL o l ≠ [] := by
  cases l with
  | nil => exact absurd rfl hl
  | cons r l =>
    intro e
    rw [chL, List.append_eq_nil_iff] at e
    have := e.1
    unfold chA at this
    split at this
    · rename_i h2
      obtain ⟨S, l, rfl, h3, _⟩ := wf_opJ (h r (by simp)) ho h2
      have h4 : l = [] := this
      rw [h4] at h3; simp at h3
    · cases this
theorem chX_M5 {s : ByteArray} {l : List Rx} (h : ∀ x ∈ l, x.wf) {i j : Nat} (hj : j < s.size + 1) : M s (chX 5 l) i j ↔ ∃ y ∈ l, M s y i j := by
  rw [chX, if_neg (by omega)]
  simp only
  rw [finX_M hj, ← chL_M5 h hj]
  constructor
  · rintro ⟨y, hy, hm⟩
    have := mem_chO.1 hy
    simp at this
    exact ⟨y, this.1, hm⟩
  · rintro ⟨y, hy, hm⟩
    exact ⟨y, mem_chO.2 (.inr ⟨hy, fun h1 => M_op1 h1 hm⟩), hm⟩
theorem chX_M7 {s : ByteArray} {l : List Rx} (h : ∀ x ∈ l, x.wf) (hl : l ≠ []) {i j : Nat} (hj : j < s.size + 1) : M s (chX 7 l) i j ↔ ∀ y ∈ l, M s y i j := by
  rw [chX, if_pos rfl, ← chL_M7 h hj]
  rcases find_isN (l := chL 7 l) with ⟨r, e, hm, h1⟩ | ⟨e, h1⟩
  · rw [e]
    exact ⟨fun h2 => (M_op1 h1 h2).elim, fun h2 => (M_op1 h1 (h2 r hm)).elim⟩
  · rw [e]
    simp only
    have hmem : ∀ y, y ∈ chO [] (chL 7 l) ↔ y ∈ chL 7 l := fun y => by
      rw [mem_chO]
      constructor
      · rintro (h | h)
        · cases h
        · exact h.1
      · intro h; exact .inr ⟨h, h1 y h⟩
    rw [finX_M7 _ hj]
    · simp only [hmem]
    · intro e2
      obtain ⟨y, hy⟩ := List.exists_mem_of_ne_nil _ (chL_ne h (.inr (.inr rfl)) hl)
      have := (hmem y).2 hy
      rw [e2] at this; cases this
/-! #### what is left -/
def notX (x : Rx) : Rx := if x.op = 8 then x.subs.headD rxN else .mk 8 ByteArray.empty [x]
open Classical in
mutual
noncomputable def drvX (c : UInt8) : Rx → Rx
  | .mk o S l => if o = 3 then (if isIn S c then rxE else rxN) else if o = 4 then chX 5 (drvC c l) else if o = 5 ∨ o = 7 then chX o (drvs c l) else
    if o = 6 then catX [(drvs c l).headD rxN, .mk o S l] else if o = 8 then notX ((drvs c l).headD rxN) else rxN
noncomputable def drvC (c : UInt8) : List Rx → List Rx
  | [] => []
  | x :: l => catX (drvX c x :: l) :: if x.nul then drvC c l else []
noncomputable def drvs (c : UInt8) : List Rx → List Rx
  | [] => []
  | x :: l => drvX c x :: drvs c l
end
theorem drvs_map (c : UInt8) : ∀ l : List Rx, drvs c l = l.map (drvX c)
  | [] => rfl
  | x :: l => by rw [drvs, drvs_map c l]; rfl
theorem rxN_wf : rxN.wf := wf_sub.2 ⟨by unfold nodeOk; rw [if_neg (by omega)]; exact ⟨e_size, .inl ⟨.inl rfl, rfl⟩⟩, by simp⟩
theorem rxE_wf : rxE.wf := wf_sub.2 ⟨by unfold nodeOk; rw [if_neg (by omega)]; exact ⟨e_size, .inl ⟨.inr rfl, rfl⟩⟩, by simp⟩
theorem notX_wf {x : Rx} (h : x.wf) : (notX x).wf := by
  unfold notX
  split
  · rename_i h2
    obtain ⟨o, S, l⟩ := x
    have h2 : o = 8 := h2
    subst h2
    obtain ⟨y, rfl⟩ := wf1 (wf_sub.1 h).1 (.inr rfl)
    exact (wf_sub.1 h).2 y (by simp)
  · exact wf_sub.2 ⟨by unfold nodeOk; rw [if_neg (by omega)]; exact ⟨e_size, .inr (.inr ⟨.inr rfl, rfl⟩)⟩, by simpa using h⟩
theorem drv_wf (c : UInt8) (r : Rx) (h : r.wf) : (drvX c r).wf := by
  induction r using Rx.ind with
  | h o S l ih =>
  have hl := (wf_sub.1 h).2
  have hn := (wf_sub.1 h).1
  have hs : ∀ x ∈ drvs c l, x.wf := fun x hx => by
    rw [drvs_map] at hx
    obtain ⟨y, hy, rfl⟩ := List.mem_map.1 hx
    exact ih y hy (hl y hy)
  rw [drvX]
  split
  · split
    · exact rxE_wf
    · exact rxN_wf
  split
  · refine chX_wf (.inl rfl) ?_
    clear hn h hs
    induction l with
    | nil => simp [drvC]
    | cons x l ih2 =>
      intro y hy
      rw [drvC] at hy
      rcases List.mem_cons.1 hy with rfl | hy
      · refine catX_wf fun z hz => ?_
        rcases List.mem_cons.1 hz with rfl | hz
        · exact ih x (by simp) (hl x (by simp))
        · exact hl z (by simp [hz])
      · split at hy
        · exact ih2 (fun z hz => ih z (by simp [hz])) (fun z hz => hl z (by simp [hz])) y hy
        · cases hy
  split
  · rename_i ho
    exact chX_wf ho hs
  split
  · rename_i ho
    obtain ⟨x, rfl⟩ := wf1 hn (.inl ho)
    refine catX_wf fun z hz => ?_
    simp only [List.mem_cons, List.not_mem_nil, or_false] at hz
    rcases hz with rfl | rfl
    · exact hs _ (by simp [drvs])
    · exact h
  split
  · rename_i ho
    obtain ⟨x, rfl⟩ := wf1 hn (.inr ho)
    exact notX_wf (hs _ (by simp [drvs]))
  · exact rxN_wf
theorem nul_M (s : ByteArray) (r : Rx) (h : r.wf) : ∀ i, i < s.size + 1 → (r.nul ↔ M s r i i) := by
  induction r using Rx.ind with
  | h o S l ih =>
  intro i hi
  have hl := (wf_sub.1 h).2
  have hn := (wf_sub.1 h).1
  replace ih := fun x hx => ih x hx (hl x hx) i hi
  unfold nodeOk at hn
  rw [nul_mk]
  by_cases h3 : o = 3
  · subst h3
    rw [M_3 hi]
    constructor
    · intro h; exfalso; omega
    · intro h; exfalso; omega
  rw [if_neg h3] at hn
  rcases hn.2 with ⟨h1 | h1, h2⟩ | ⟨h1 | h1 | h1, h2, h28⟩ | ⟨h1 | h1, h2⟩
  · subst h1
    exact ⟨fun h => by exfalso; omega, fun h => (M_1 h).elim⟩
  · subst h1
    rw [M_2 hi]; simp
  · subst h1
    have hne : l ≠ [] := by intro e; rw [e] at h2; simp at h2
    rw [M_cat hne]
    have : seqR (l.map (M s)) i i ↔ ∀ x ∈ l, M s x i i := by
      clear hne h2 h28 h hl ih hn h3
      induction l with
      | nil => simp [seqR]
      | cons x l ih2 =>
        rw [List.map_cons, seqR]
        constructor
        · rintro ⟨k, h1, h2⟩
          have := (M_fwd s x _ _ h1).1
          have := seqR_le h2
          obtain rfl : k = i := by omega
          intro y hy
          rcases List.mem_cons.1 hy with rfl | hy
          · exact h1
          · exact ih2.1 h2 y hy
        · intro h
          exact ⟨i, h x (by simp), ih2.2 fun y hy => h y (by simp [hy])⟩
    rw [this]
    constructor
    · intro h x hx; rw [← ih x hx]; rcases h with h | h | h | h | h <;> first | omega | exact h.2 x hx
    · intro h; exact .inr (.inr (.inl ⟨.inl rfl, fun x hx => (ih x hx).2 (h x hx)⟩))
  · subst h1
    rw [M_or hi]
    constructor
    · rintro (h | h | h | h | h)
      · omega
      · omega
      · omega
      · obtain ⟨x, hx, hm⟩ := h.2; exact ⟨x, hx, (ih x hx).1 hm⟩
      · omega
    · rintro ⟨x, hx, hm⟩
      exact .inr (.inr (.inr (.inl ⟨rfl, x, hx, (ih x hx).2 hm⟩)))
  · subst h1
    rw [M_and (by intro e; rw [e] at h2; simp at h2) hi]
    constructor
    · intro h x hx; rw [← ih x hx]; rcases h with h | h | h | h | h <;> first | omega | exact h.2 x hx
    · intro h; exact .inr (.inr (.inl ⟨.inr rfl, fun x hx => (ih x hx).2 (h x hx)⟩))
  · subst h1
    match l, h2 with
    | [x], _ =>
      rw [M_6 hi, Star.unfold (M_fwd s x)]
      simp
  · subst h1
    match l, h2 with
    | [x], _ =>
      rw [M_8 (Nat.le_refl _) hi, ← ih x (by simp)]
      simp
theorem seqR_corr {a m : Nat} {t s : ByteArray} (hC : ∀ r, Corr a m (M t r) (M s r)) (hs : s.size = a + m) (ht : t.size = m) {l : List Rx} {i j : Nat} (hij : i ≤ j) (hj : j ≤ m) : seqR (l.map (M t)) i j ↔ seqR (l.map (M s)) (a + i) (a + j) := by
  induction l generalizing i with
  | nil => simp [seqR]
  | cons x l ih =>
    rw [List.map_cons, List.map_cons, seqR, seqR]
    constructor
    · rintro ⟨k, h1, h2⟩
      have := (M_fwd t x _ _ h1).1
      have := seqR_le h2
      exact ⟨a + k, (hC x i k (by omega) (by omega)).1 h1, (ih (by omega)).1 h2⟩
    · rintro ⟨k, h1, h2⟩
      have := (M_fwd s x _ _ h1).1
      have := seqR_le h2
      obtain ⟨k, rfl⟩ : ∃ k', k = a + k' := ⟨k - a, by omega⟩
      exact ⟨k, (hC x i k (by omega) (by omega)).2 h1, (ih (by omega)).2 h2⟩
theorem drv_M {t s : ByteArray} {m : Nat} (hC : ∀ r, Corr 1 m (M t r) (M s r)) (hs : s.size = 1 + m) (ht : t.size = m) {c : UInt8} (hc : s[0]'(by omega) = c) (r : Rx) (h : r.wf) : ∀ j, j ≤ m → (M t (drvX c r) 0 j ↔ M s r 0 (1 + j)) := by
  induction r using Rx.ind with
  | h o S l ih =>
  intro j hj
  have hl := (wf_sub.1 h).2
  have hn := (wf_sub.1 h).1
  replace ih := fun x hx => ih x hx (hl x hx)
  have hjt : j < t.size + 1 := by omega
  have hjs : 1 + j < s.size + 1 := by omega
  have hsw : ∀ x ∈ drvs c l, x.wf := fun x hx => by
    rw [drvs_map] at hx
    obtain ⟨y, hy, rfl⟩ := List.mem_map.1 hx
    exact drv_wf c y (hl y hy)
  rw [drvX]
  unfold nodeOk at hn
  by_cases h3 : o = 3
  · subst h3
    rw [if_pos rfl, M_3 hjs]
    split
    · rename_i hi
      rw [M_2 hjt]
      constructor
      · rintro rfl; exact ⟨rfl, by omega, by rw [hc]; exact hi⟩
      · intro h; omega
    · rename_i hi
      constructor
      · intro h; exact (M_1 h).elim
      · rintro ⟨_, h1, h2⟩; rw [hc] at h2; exact absurd h2 hi
  rw [if_neg h3] at hn ⊢
  rcases hn.2 with ⟨h1 | h1, h2⟩ | ⟨h1 | h1 | h1, h2, h28⟩ | ⟨h1 | h1, h2⟩
  · subst h1
    rw [if_neg (by omega), if_neg (by omega), if_neg (by omega), if_neg (by omega)]
    exact ⟨fun h => (M_1 h).elim, fun h => (M_1 h).elim⟩
  · subst h1
    rw [if_neg (by omega), if_neg (by omega), if_neg (by omega), if_neg (by omega), M_2 hjs]
    exact ⟨fun h => (M_1 h).elim, fun h => by omega⟩
  · subst h1
    have hne : l ≠ [] := by intro e; rw [e] at h2; simp at h2
    rw [if_pos rfl, M_cat hne]
    have hw : ∀ x ∈ drvC c l, x.wf := by
      clear hne h2 h28 h ih hn h3 hsw
      induction l with
      | nil => simp [drvC]
      | cons x l ih2 =>
        intro y hy
        rw [drvC] at hy
        rcases List.mem_cons.1 hy with rfl | hy
        · refine catX_wf fun z hz => ?_
          rcases List.mem_cons.1 hz with rfl | hz
          · exact drv_wf c x (hl x (by simp))
          · exact hl z (by simp [hz])
        · split at hy
          · exact ih2 (fun z hz => hl z (by simp [hz])) y hy
          · cases hy
    rw [chX_M5 hw hjt]
    clear hne h2 h28 h hn h3 hsw hw
    induction l with
    | nil =>
      simp only [drvC, List.not_mem_nil, false_and, exists_false, List.map_nil, seqR, false_iff]
      omega
    | cons x l ih2 =>
      have ih2 := ih2 (fun y hy => hl y (by simp [hy])) (fun y hy => ih y (by simp [hy]))
      have hx := ih x (by simp)
      have hN := nul_M s x (hl x (by simp)) 0 (by omega)
      have hX : M t (catX (drvX c x :: l)) 0 j ↔ ∃ k, 1 ≤ k ∧ M s x 0 k ∧ seqR (l.map (M s)) k (1 + j) := by
        rw [catX_M (fun z hz => by
          rcases List.mem_cons.1 hz with rfl | hz
          · exact drv_wf c x (hl x (by simp))
          · exact hl z (by simp [hz])) hjt, List.map_cons, seqR]
        constructor
        · rintro ⟨k, h1, h2⟩
          have := seqR_le h2
          exact ⟨1 + k, by omega, (hx k (by omega)).1 h1, (seqR_corr hC hs ht this hj).1 h2⟩
        · rintro ⟨k, h0, h1, h2⟩
          have := seqR_le h2
          obtain ⟨k, rfl⟩ : ∃ k', k = 1 + k' := ⟨k - 1, by omega⟩
          exact ⟨k, (hx k (by omega)).2 h1, (seqR_corr hC hs ht (by omega) hj).2 h2⟩
      rw [drvC, List.map_cons, seqR]
      simp only [List.mem_cons, or_and_right, exists_or, exists_eq_left]
      rw [hX]
      have h2' : (∃ y, y ∈ (@ite (List Rx) x.nul (Classical.propDecidable _) (drvC c l) []) ∧ M t y 0 j) ↔ M s x 0 0 ∧ seqR (l.map (M s)) 0 (1 + j) := by
        split
        · rename_i hnl
          exact ⟨fun h => ⟨hN.1 hnl, ih2.1 h⟩, fun h => ih2.2 h.2⟩
        · rename_i hnl
          rw [← hN]; simp [hnl]
      rw [h2']
      constructor
      · rintro (⟨k, _, h3⟩ | h3)
        · exact ⟨k, h3⟩
        · exact ⟨0, h3⟩
      · rintro ⟨k, h3⟩
        rcases Nat.eq_zero_or_pos k with rfl | hk
        · exact .inr h3
        · exact .inl ⟨k, hk, h3⟩
  · subst h1
    rw [if_neg (by omega), if_pos (.inl rfl), chX_M5 hsw hjt, M_or hjs, drvs_map]
    constructor
    · rintro ⟨y, hy, hm⟩
      obtain ⟨x, hx, rfl⟩ := List.mem_map.1 hy
      exact ⟨x, hx, (ih x hx j hj).1 hm⟩
    · rintro ⟨x, hx, hm⟩
      exact ⟨_, List.mem_map.2 ⟨x, hx, rfl⟩, (ih x hx j hj).2 hm⟩
  · subst h1
    have hne : l ≠ [] := by intro e; rw [e] at h2; simp at h2
    rw [if_neg (by omega), if_pos (.inr rfl), chX_M7 hsw (by rw [drvs_map]; simpa using hne) hjt, M_and hne hjs, drvs_map]
    constructor
    · intro hm x hx
      exact (ih x hx j hj).1 (hm _ (List.mem_map.2 ⟨x, hx, rfl⟩))
    · intro hm y hy
      obtain ⟨x, hx, rfl⟩ := List.mem_map.1 hy
      exact (ih x hx j hj).2 (hm x hx)
  · subst h1
    match l, h2 with
    | [x], _ =>
      rw [if_neg (by omega), if_neg (by omega), if_pos rfl, catX_M (fun z hz => by
        simp only [List.mem_cons, List.not_mem_nil, or_false] at hz
        rcases hz with rfl | rfl
        · exact hsw _ (by simp [drvs])
        · exact h) hjt, M_6 hjs, Star.unfold (M_fwd s x)]
      simp only [List.map_cons, List.map_nil, seqR, drvs, List.headD_cons]
      have hx := ih x (by simp)
      have hSt : ∀ k, M s (.mk 6 S [x]) k (1 + j) ↔ Star (M s x) k (1 + j) := fun k => M_6 hjs
      constructor
      · rintro ⟨k, h1, k2, h3, rfl⟩
        have := (M_fwd t _ _ _ h3).1
        exact .inr ⟨1 + k, by omega, (hx k (by omega)).1 h1, (hSt _).1 ((hC _ k k2 (by omega) hj).1 h3)⟩
      · rintro (h1 | ⟨k, h0, h1, h3⟩)
        · omega
        · have := h3.le (M_fwd s x)
          obtain ⟨k, rfl⟩ : ∃ k', k = 1 + k' := ⟨k - 1, by omega⟩
          exact ⟨k, (hx k (by omega)).2 h1, j, (hC _ k j (by omega) hj).2 ((hSt _).2 h3), rfl⟩
  · subst h1
    match l, h2 with
    | [x], _ =>
      rw [if_neg (by omega), if_neg (by omega), if_neg (by omega), if_pos rfl, M_8 (Nat.zero_le _) hjs]
      simp only [drvs, List.headD_cons]
      have hx := ih x (by simp) j hj
      have hw := drv_wf c x (hl x (by simp))
      rw [← hx]
      generalize drvX c x = y at *
      unfold notX
      split
      · rename_i h8
        obtain ⟨o, S', L⟩ := y
        have h8 : o = 8 := h8
        subst h8
        obtain ⟨z, rfl⟩ := wf1 (wf_sub.1 hw).1 (.inr rfl)
        rw [M_8 (Nat.zero_le _) hjt]
        simp only [Rx.subs, List.headD_cons, Classical.not_not]
      · exact M_8 (Nat.zero_le _) hjt
end Go.Ab
set_option maxHeartbeats 4000000
namespace Go.Ab
open Go Go.Ab Go.Proofs Go.Ab.Ty

/-! ### how large what is left is (plain) -/
theorem cnts_app : ∀ a b : List Rx, cnts (a ++ b) = cnts a + cnts b
  | [], b => by simp [cnts]
  | x :: a, b => by rw [List.cons_append, cnts, cnts, cnts_app a b]; omega
theorem cnts_mem : ∀ {l : List Rx} {x : Rx}, x ∈ l → x.cnt ≤ cnts l
  | y :: l, x, h => by
    rw [cnts]
    rcases List.mem_cons.1 h with rfl | h
    · omega
    · have := cnts_mem h; omega
theorem lenL_cnts : ∀ l : List Rx, l.length ≤ cnts l
  | [] => by simp
  | x :: l => by have := lenL_cnts l; have := x.cnt_pos; rw [cnts, List.length_cons]; omega
theorem deps_le {k : Nat} : ∀ {l : List Rx}, deps l ≤ k ↔ ∀ x ∈ l, x.dep ≤ k
  | [] => by simp [deps]
  | x :: l => by rw [deps, Nat.max_le, deps_le]; simp
theorem cnt_mk (o : Int) (S : ByteArray) (l : List Rx) : (Rx.mk o S l).cnt = 1 + cnts l := by rw [Rx.cnt]
theorem dep_mk (o : Int) (S : ByteArray) (l : List Rx) : (Rx.mk o S l).dep = deps l + 1 := by rw [Rx.dep]
theorem grpL_cnt {o : Int} : ∀ (k : Nat) (l : List Rx), cnts (grpL o k l) + (grpL o k l).length ≤ cnts l + l.length
  | 0, l => Nat.le_refl _
  | k + 1, l => by
    rw [grpL]
    split
    · refine Nat.le_trans (grpL_cnt k _) ?_
      rw [cnts_app, List.length_append, cnts, cnts, cnt_mk]
      have := cnts_app (l.take (l.length - min (l.length - 7) 8)) (l.drop (l.length - min (l.length - 7) 8))
      rw [List.take_append_drop] at this
      simp only [List.length_take, List.length_cons, List.length_nil]
      omega
    · exact Nat.le_refl _
theorem grp_cnt (o : Int) (l : List Rx) : (grp o l).cnt ≤ 1 + 2 * cnts l := by
  have := grpL_cnt (o := o) l.length l
  have := lenL_cnts l
  rw [grp, cnt_mk]; omega
theorem finX_cnt {o z : Int} (l : List Rx) : (finX o z l).cnt ≤ 1 + 2 * cnts l := by
  unfold finX
  split
  · rw [cnt_mk]; simp [cnts]
  · simp only [cnts]; omega
  · exact grp_cnt _ _
theorem catA_cnt (r : Rx) : cnts (catA r) ≤ r.cnt := by
  unfold catA
  split
  · simp [cnts]
  split
  · obtain ⟨o, S, l⟩ := r; rw [cnt_mk]; simp only [Rx.subs]; omega
  · simp [cnts]
theorem chA_cnt (o : Int) (r : Rx) : cnts (chA o r) ≤ r.cnt := by
  unfold chA
  split
  · obtain ⟨o, S, l⟩ := r; rw [cnt_mk]; simp only [Rx.subs]; omega
  · simp [cnts]
theorem catL_cnt : ∀ l : List Rx, cnts (catL l) ≤ cnts l
  | [] => Nat.le_refl _
  | r :: l => by rw [catL, cnts_app, cnts]; have := catL_cnt l; have := catA_cnt r; omega
theorem chL_cnt (o : Int) : ∀ l : List Rx, cnts (chL o l) ≤ cnts l
  | [] => Nat.le_refl _
  | r :: l => by rw [chL, cnts_app, cnts]; have := chL_cnt o l; have := chA_cnt o r; omega
theorem chO_cnt : ∀ l out : List Rx, cnts (chO out l) ≤ cnts out + cnts l
  | [], out => by simp [chO, cnts]
  | x :: l, out => by
    rw [chO, cnts]
    split
    · have := chO_cnt l (out ++ [x]); rw [cnts_app] at this; simp only [cnts] at this; omega
    · have := chO_cnt l out; omega
theorem catX_cnt (l : List Rx) : (catX l).cnt ≤ 1 + 2 * cnts l := by
  unfold catX
  split
  · rename_i r hr; have := cnts_mem (List.mem_of_find?_eq_some hr); omega
  · have := finX_cnt (o := 4) (z := 2) (catL l); have := catL_cnt l; omega
theorem chX_cnt (o : Int) (l : List Rx) : (chX o l).cnt ≤ 1 + 2 * cnts l := by
  have := chL_cnt o l
  unfold chX
  split
  · rename_i r hr
    split at hr
    · have := cnts_mem (List.mem_of_find?_eq_some hr); omega
    · cases hr
  · have := finX_cnt (o := o) (z := 1) (chO [] (chL o l)); have := chO_cnt (chL o l) []; simp only [cnts] at this; omega
theorem notX_cnt (x : Rx) : (notX x).cnt ≤ 1 + x.cnt := by
  unfold notX
  split
  · obtain ⟨o, S, l⟩ := x
    cases l with
    | nil => simp only [Rx.subs, List.headD_nil, cnt_mk, cnts]; omega
    | cons y l => simp only [Rx.subs, List.headD_cons, cnt_mk, cnts]; omega
  · rw [cnt_mk]; simp [cnts]
theorem sq_add (a b : Nat) : (a + b) * (a + b) = a * a + 2 * (a * b) + b * b := by
  rw [Nat.mul_add, Nat.add_mul, Nat.add_mul, Nat.mul_comm b a]; omega
theorem mul3 (C a b : Nat) : C * ((a + b) * (a + b)) = C * (a * a) + 2 * (C * (a * b)) + C * (b * b) := by
  rw [sq_add, Nat.mul_add, Nat.mul_add]
  rw [Nat.mul_left_comm C 2]
theorem le_mul_pos {a b C : Nat} (hC : 1 ≤ C) (h : a ≤ b) : a ≤ C * b := Nat.le_trans h (Nat.le_mul_of_pos_left b hC)
theorem drvs_cnt {c : UInt8} {C : Nat} : ∀ l : List Rx, (∀ x ∈ l, (drvX c x).cnt ≤ C * (x.cnt * x.cnt)) → cnts (drvs c l) ≤ C * (cnts l * cnts l)
  | [], _ => by simp [drvs, cnts]
  | x :: l, h => by
    have h1 := h x (by simp)
    have h2 := drvs_cnt l fun y hy => h y (by simp [hy])
    rw [drvs, cnts, cnts, mul3]
    omega
theorem drvC_cnt {c : UInt8} {C : Nat} (hC : 1 ≤ C) : ∀ l : List Rx, (∀ x ∈ l, (drvX c x).cnt ≤ C * (x.cnt * x.cnt)) → 1 + 2 * cnts (drvC c l) ≤ 5 * (C * ((1 + cnts l) * (1 + cnts l)))
  | [], _ => by simp [drvC, cnts]; omega
  | x :: l, h => by
    have h1 := h x (by simp)
    have h2 := drvC_cnt hC l fun y hy => h y (by simp [hy])
    have h3 := catX_cnt (drvX c x :: l)
    have hx := x.cnt_pos
    rw [cnts] at h3
    rw [drvC, cnts, cnts]
    have h4' : cnts (@ite (List Rx) x.nul (Classical.propDecidable _) (drvC c l) []) ≤ cnts (drvC c l) := by
      split
      · exact Nat.le_refl _
      · simp [cnts]
    rw [show 1 + (x.cnt + cnts l) = x.cnt + (1 + cnts l) by omega, mul3]
    have h5 : 1 + cnts l ≤ C * (x.cnt * (1 + cnts l)) := le_mul_pos hC (le_mul_pos hx (Nat.le_refl _))
    omega
theorem pow5 (k : Nat) : 1 ≤ 5 ^ k := Nat.pos_of_ne_zero (by simp)
theorem dep_mem {l : List Rx} {x : Rx} (h : x ∈ l) : x.dep ≤ deps l := deps_le.1 (Nat.le_refl _) x h
theorem drv_cnt (c : UInt8) (r : Rx) : (drvX c r).cnt ≤ 5 ^ r.dep * (r.cnt * r.cnt) := by
  induction r using Rx.ind with
  | h o S l ih =>
  have hC := pow5 (deps l)
  have ih : ∀ x ∈ l, (drvX c x).cnt ≤ 5 ^ deps l * (x.cnt * x.cnt) := fun x hx =>
    Nat.le_trans (ih x hx) (Nat.mul_le_mul_right _ (Nat.pow_le_pow_right (by omega) (dep_mem hx)))
  have hs := drvs_cnt l ih
  have hc := drvC_cnt hC l ih
  rw [dep_mk, cnt_mk, Nat.pow_succ, Nat.mul_right_comm, Nat.mul_comm _ 5]
  have hm := mul3 (5 ^ deps l) 1 (cnts l)
  have h1 : 1 ≤ 5 ^ deps l * (1 * 1) := by omega
  have h2 : cnts l ≤ 5 ^ deps l * (1 * cnts l) := le_mul_pos hC (by omega)
  generalize 5 ^ deps l = C at *
  rw [hm] at hc ⊢
  have hd : ((drvs c l).headD rxN).cnt ≤ 1 + cnts (drvs c l) := by
    cases drvs c l with
    | nil => simp [cnt_mk, cnts]
    | cons y L => simp only [List.headD_cons, cnts]; omega
  rw [drvX]
  split
  · split <;> rw [cnt_mk] <;> simp only [cnts] <;> omega
  split
  · have := chX_cnt 5 (drvC c l); omega
  split
  · have := chX_cnt o (drvs c l); omega
  split
  · have h3 := catX_cnt [(drvs c l).headD rxN, .mk o S l]
    simp only [cnts, cnt_mk] at h3
    cases l with
    | nil => simp only [drvs, List.headD_nil, cnt_mk, cnts] at *; omega
    | cons x L =>
      have : ((drvs c (x :: L)).headD rxN).cnt ≤ cnts (drvs c (x :: L)) := by simp only [drvs, List.headD_cons, cnts]; omega
      omega
  split
  · have := notX_cnt ((drvs c l).headD rxN); omega
  · rw [cnt_mk]; simp only [cnts]; omega
/-! #### of at most 8 nodes, without RAnd and RNot -/
inductive Rx.tight : Rx → Prop
  | mk (o : Int) (S : ByteArray) (l : List Rx) (h7 : o ≠ 7) (h8 : o ≠ 8) (hl : ∀ x ∈ l, Rx.tight x) : Rx.tight (.mk o S l)
theorem tight_sub {o : Int} {s : ByteArray} {l : List Rx} : (Rx.mk o s l).tight ↔ o ≠ 7 ∧ o ≠ 8 ∧ ∀ x ∈ l, x.tight :=
  ⟨fun | .mk _ _ _ h1 h2 h3 => ⟨h1, h2, h3⟩, fun ⟨h1, h2, h3⟩ => .mk _ _ _ h1 h2 h3⟩
inductive Rx.arm (n : Nat) : Rx → Prop
  | mk (o : Int) (S : ByteArray) (l : List Rx) (h : l.length ≤ n) (hl : ∀ x ∈ l, Rx.arm n x) : Rx.arm n (.mk o S l)
theorem arm_sub {n : Nat} {o : Int} {s : ByteArray} {l : List Rx} : (Rx.mk o s l).arm n ↔ l.length ≤ n ∧ ∀ x ∈ l, x.arm n :=
  ⟨fun | .mk _ _ _ h1 h2 => ⟨h1, h2⟩, fun ⟨h1, h2⟩ => .mk _ _ _ h1 h2⟩
theorem arm_mono {n m : Nat} (h : n ≤ m) (r : Rx) (hr : r.arm n) : r.arm m := by
  induction r using Rx.ind with
  | h o S l ih =>
  obtain ⟨h1, h2⟩ := arm_sub.1 hr
  exact arm_sub.2 ⟨by omega, fun x hx => ih x hx (h2 x hx)⟩
theorem arm_cnt (r : Rx) : r.arm (r.cnt - 1) := by
  induction r using Rx.ind with
  | h o S l ih =>
  rw [cnt_mk]
  refine arm_sub.2 ⟨by have := lenL_cnts l; omega, fun x hx => arm_mono ?_ x (ih x hx)⟩
  have := cnts_mem hx; omega
theorem arm_subs {n : Nat} {r : Rx} (h : r.arm n) : r.subs.length ≤ n ∧ ∀ x ∈ r.subs, x.arm n := by
  obtain ⟨o, S, l⟩ := r; exact arm_sub.1 h
theorem catA_arm {n : Nat} {r : Rx} (h : r.arm n) : ∀ x ∈ catA r, x.arm n := by
  unfold catA
  split
  · simp
  split
  · exact (arm_subs h).2
  · simpa using h
theorem chA_arm {n : Nat} {o : Int} {r : Rx} (h : r.arm n) : ∀ x ∈ chA o r, x.arm n := by
  unfold chA
  split
  · exact (arm_subs h).2
  · simpa using h
theorem catL_arm {n : Nat} {l : List Rx} (h : ∀ x ∈ l, x.arm n) : ∀ x ∈ catL l, x.arm n := by
  induction l with
  | nil => simp [catL]
  | cons r l ih =>
    intro x hx
    rcases List.mem_append.1 hx with hx | hx
    · exact catA_arm (h r (by simp)) x hx
    · exact ih (fun y hy => h y (by simp [hy])) x hx
theorem chL_arm {n : Nat} {o : Int} {l : List Rx} (h : ∀ x ∈ l, x.arm n) : ∀ x ∈ chL o l, x.arm n := by
  induction l with
  | nil => simp [chL]
  | cons r l ih =>
    intro x hx
    rcases List.mem_append.1 hx with hx | hx
    · exact chA_arm (h r (by simp)) x hx
    · exact ih (fun y hy => h y (by simp [hy])) x hx
theorem catA_len {n : Nat} {r : Rx} (h : r.arm n) (hn : 1 ≤ n) : (catA r).length ≤ n := by
  unfold catA
  split
  · simp
  split
  · exact (arm_subs h).1
  · simpa using hn
theorem chA_len {n : Nat} {o : Int} {r : Rx} (h : r.arm n) (hn : 1 ≤ n) : (chA o r).length ≤ n := by
  unfold chA
  split
  · exact (arm_subs h).1
  · simpa using hn
theorem catL_len (l : List Rx) : (catL l).length ≤ cnts l := Nat.le_trans (lenL_cnts _) (catL_cnt l)
def altN (r : Rx) : Nat := if r.op = 1 then 0 else (chA 5 r).length
def altNs : List Rx → Nat
  | [] => 0
  | r :: l => altN r + altNs l
theorem chO_app : ∀ (a b out : List Rx), chO out (a ++ b) = chO (chO out a) b
  | [], b, out => rfl
  | x :: a, b, out => by
    rw [List.cons_append, chO, chO]
    split
    · exact chO_app a b _
    · exact chO_app a b _
theorem chO_len : ∀ (l out : List Rx), (chO out l).length ≤ out.length + l.length
  | [], out => by simp [chO]
  | x :: l, out => by
    rw [chO, List.length_cons]
    split
    · have := chO_len l (out ++ [x]); simp only [List.length_append, List.length_cons, List.length_nil] at this; omega
    · have := chO_len l out; omega
theorem chO_alt : ∀ (l out : List Rx), (chO out (chL 5 l)).length ≤ out.length + altNs l
  | [], out => by simp [chL, chO, altNs]
  | r :: l, out => by
    rw [chL, chO_app, altNs]
    have h1 := chO_alt l (chO out (chA 5 r))
    have h2 : (chO out (chA 5 r)).length ≤ out.length + altN r := by
      unfold altN
      split
      · rename_i h
        unfold chA
        rw [if_neg (by omega), chO, if_neg (by simp [h]), chO]
        omega
      · exact chO_len _ _
    omega
theorem finX_arm {n : Nat} {o z : Int} {l : List Rx} (h8 : l.length ≤ 8) (hn : l.length ≤ n) (h : ∀ x ∈ l, x.arm n) : (finX o z l).arm n := by
  unfold finX
  split
  · exact arm_sub.2 ⟨by simp, by simp⟩
  · exact h _ (by simp)
  · rw [grp, grpL_small h8]; exact arm_sub.2 ⟨hn, h⟩
theorem finX_cnt8 {o z : Int} {l : List Rx} (h8 : l.length ≤ 8) : (finX o z l).cnt ≤ 1 + cnts l := by
  unfold finX
  split
  · rw [cnt_mk]; simp [cnts]
  · simp only [cnts]; omega
  · rw [grp, grpL_small h8, cnt_mk]; omega
theorem finX_dep8 {o z : Int} {l : List Rx} {k : Nat} (h8 : l.length ≤ 8) (h : ∀ x ∈ l, x.dep ≤ k) : (finX o z l).dep ≤ k + 1 := by
  unfold finX
  split
  · rw [dep_mk]; simp [deps]
  · have := h _ (List.mem_singleton.2 rfl); omega
  · rw [grp, grpL_small h8, dep_mk]; have := deps_le.2 h; omega
theorem catA_dep {k : Nat} {r : Rx} (h : r.dep ≤ k) : ∀ x ∈ catA r, x.dep ≤ k := by
  unfold catA
  split
  · simp
  split
  · obtain ⟨o, S, l⟩ := r; rw [dep_mk] at h; intro x hx; have := dep_mem (l := l) hx; omega
  · simpa using h
theorem chA_dep {k : Nat} {o : Int} {r : Rx} (h : r.dep ≤ k) : ∀ x ∈ chA o r, x.dep ≤ k := by
  unfold chA
  split
  · obtain ⟨o, S, l⟩ := r; rw [dep_mk] at h; intro x hx; have := dep_mem (l := l) hx; omega
  · simpa using h
theorem catL_dep {k : Nat} {l : List Rx} (h : ∀ x ∈ l, x.dep ≤ k) : ∀ x ∈ catL l, x.dep ≤ k := by
  induction l with
  | nil => simp [catL]
  | cons r l ih =>
    intro x hx
    rcases List.mem_append.1 hx with hx | hx
    · exact catA_dep (h r (by simp)) x hx
    · exact ih (fun y hy => h y (by simp [hy])) x hx
theorem chL_dep {k : Nat} {o : Int} {l : List Rx} (h : ∀ x ∈ l, x.dep ≤ k) : ∀ x ∈ chL o l, x.dep ≤ k := by
  induction l with
  | nil => simp [chL]
  | cons r l ih =>
    intro x hx
    rcases List.mem_append.1 hx with hx | hx
    · exact chA_dep (h r (by simp)) x hx
    · exact ih (fun y hy => h y (by simp [hy])) x hx
theorem catX_8 {n k : Nat} {l : List Rx} (h8 : (catL l).length ≤ 8) (hn : (catL l).length ≤ n) (ha : ∀ x ∈ l, x.arm n) (hd : ∀ x ∈ l, x.dep ≤ k) : (catX l).arm n ∧ (catX l).cnt ≤ 1 + cnts l ∧ (catX l).dep ≤ k + 1 := by
  unfold catX
  split
  · rename_i r hr
    have hm := List.mem_of_find?_eq_some hr
    have := cnts_mem hm
    have := hd r hm
    exact ⟨ha r hm, by omega, by omega⟩
  · have := catL_cnt l
    have h1 := finX_cnt8 (o := 4) (z := 2) h8
    exact ⟨finX_arm h8 hn (catL_arm ha), by omega, finX_dep8 h8 (catL_dep hd)⟩
theorem chX_8 {n k : Nat} {l : List Rx} (h8 : altNs l ≤ 8) (hn : altNs l ≤ n) (ha : ∀ x ∈ l, x.arm n) (hd : ∀ x ∈ l, x.dep ≤ k) : (chX 5 l).arm n ∧ (chX 5 l).cnt ≤ 1 + cnts l ∧ (chX 5 l).dep ≤ k + 1 := by
  rw [chX, if_neg (by omega)]
  simp only
  have hl := chO_alt l []
  simp only [List.length_nil, Nat.zero_add] at hl
  have h1 := chL_cnt 5 l
  have h2 := chO_cnt (chL 5 l) []
  simp only [cnts, Nat.zero_add] at h2
  have h3 := finX_cnt8 (o := 5) (z := 1) (l := chO [] (chL 5 l)) (by omega)
  have hm : ∀ x, x ∈ chO [] (chL 5 l) → x ∈ chL 5 l := fun x hx => by have := mem_chO.1 hx; simp at this; exact this.1
  exact ⟨finX_arm (by omega) (by omega) fun x hx => chL_arm ha x (hm x hx), by omega, finX_dep8 (by omega) fun x hx => chL_dep hd x (hm x hx)⟩
theorem altN_arm {n : Nat} {r : Rx} (h : r.arm n) (hn : 1 ≤ n) : altN r ≤ n := by
  unfold altN
  split
  · omega
  · exact chA_len h hn
theorem altN_own (r : Rx) : altN r ≤ max 1 (r.cnt - 1) := by
  unfold altN
  split
  · omega
  · unfold chA
    split
    · obtain ⟨o, S, l⟩ := r
      have := lenL_cnts l
      rw [cnt_mk]; simp only [Rx.subs]; omega
    · simp; omega
theorem catL_sub {l : List Rx} : ∀ {y : Rx}, y ∈ catL l → y.cnt ≤ cnts l := fun {y} h => Nat.le_trans (cnts_mem h) (catL_cnt l)
theorem altN_cat {y : Rx} {l : List Rx} {n : Nat} (hy : y.arm n) (hn : 1 ≤ n) (hw : y.wf) :
    (y.op = 1 → altN (catX (y :: l)) = 0) ∧ (y.op = 2 → altN (catX (y :: l)) ≤ max 1 (cnts l - 1)) ∧ altN (catX (y :: l)) ≤ max (max 1 n) (cnts l - 1) ∧ (y.op ≠ 2 → altN (catX (y :: l)) ≤ max 1 (altN y)) := by
  have hN : y.op = 1 → catX (y :: l) = y := fun h => by
    unfold catX
    rw [List.find?_cons_of_pos (by simp [isN, h])]
  have h1 : y.op = 1 → altN (catX (y :: l)) = 0 := fun h => by rw [hN h, altN, if_pos h]
  have hF : altN (catX (y :: l)) = 0 ∨ (catX (y :: l) = finX 4 2 (catA y ++ catL l)) := by
    unfold catX
    rcases find_isN (l := y :: l) with ⟨r, e, hm, h2⟩ | ⟨e, h2⟩
    · rw [e]; exact .inl (by simp only [altN, if_pos h2])
    · rw [e]; exact .inr rfl
  have hG : ∀ L : List Rx, altN (finX 4 2 L) ≤ 1 ∨ ∃ z, L = [z] ∧ altN (finX 4 2 L) = altN z := fun L => by
    unfold finX
    split
    · exact .inl (by simp [altN, chA, Rx.op])
    · exact .inr ⟨_, rfl, rfl⟩
    · exact .inl (by simp [altN, chA, Rx.op, grp])
  have h2 : y.op = 2 → altN (catX (y :: l)) ≤ max 1 (cnts l - 1) := fun h => by
    rcases hF with e | e
    · omega
    · rw [e]
      rcases hG (catA y ++ catL l) with h3 | ⟨z, h3, h4⟩
      · omega
      · rw [h4]
        have : catA y = [] := by unfold catA; rw [if_pos h]
        rw [this, List.nil_append] at h3
        have hz : z ∈ catL l := by rw [h3]; simp
        have := catL_sub hz
        have := altN_own z
        omega
  have h3 : y.op ≠ 2 → altN (catX (y :: l)) ≤ max 1 (altN y) := fun h => by
    rcases hF with e | e
    · omega
    · rw [e]
      rcases hG (catA y ++ catL l) with h3 | ⟨z, h3, h4⟩
      · omega
      · rw [h4]
        have : z = y := by
          by_cases h5 : y.op = 4
          · obtain ⟨S, L, rfl, h6, _⟩ := wf_opJ hw (.inl rfl) h5
            have : catA (.mk 4 S L) = L := by unfold catA; rw [if_neg h, if_pos h5]; rfl
            rw [this] at h3
            have := congrArg List.length h3
            simp at this; omega
          · have : catA y = [y] := by unfold catA; rw [if_neg h, if_neg h5]
            rw [this] at h3
            simp at h3
            exact h3.1.symm
        rw [this]; omega
  refine ⟨h1, h2, ?_, h3⟩
  have := altN_arm hy hn
  by_cases h5 : y.op = 2
  · have := h2 h5; omega
  · have := h3 h5; omega
structure Small (c : UInt8) (r : Rx) : Prop where
  arm : (drvX c r).arm r.cnt
  cnt : 2 * (drvX c r).cnt + 2 ≤ r.cnt * r.cnt + 3 * r.cnt
  dep : (drvX c r).dep ≤ r.cnt + 2
theorem cnt1 {r : Rx} (h : r.wf) (hn : r.nul) (h1 : r.cnt = 1) (c : UInt8) : (drvX c r).op = 1 := by
  obtain ⟨o, S, l⟩ := r
  rw [cnt_mk] at h1
  have hl : l = [] := List.eq_nil_of_length_eq_zero (by have := lenL_cnts l; omega)
  subst hl
  have hw := (wf_sub.1 h).1
  unfold nodeOk at hw
  rw [nul_mk] at hn
  by_cases h3 : o = 3
  · exfalso; omega
  · rw [if_neg h3] at hw
    have : o = 1 ∨ o = 2 := by simp at hw; omega
    rw [drvX, if_neg h3, if_neg (by omega), if_neg (by omega), if_neg (by omega), if_neg (by omega)]
    rfl
theorem cnt2 {r : Rx} (h : r.wf) (ht : r.tight) (h1 : r.cnt = 2) (c : UInt8) : (drvX c r).op ≠ 2 ∧ altN (drvX c r) ≤ 1 := by
  obtain ⟨o, S, l⟩ := r
  rw [cnt_mk] at h1
  have hll := lenL_cnts l
  have hw := (wf_sub.1 h).1
  obtain ⟨_, h8, _⟩ := tight_sub.1 ht
  have hle : l.length ≠ 0 := fun e => by
    have := List.eq_nil_of_length_eq_zero e
    subst this; simp [cnts] at h1
  unfold nodeOk at hw
  have h6 : o = 6 := by
    split at hw
    · omega
    · omega
  subst h6
  match l, hle, hll, h1 with
  | [x], _, _, _ =>
    rw [drvX, if_neg (by omega), if_neg (by omega), if_neg (by omega), if_pos rfl]
    simp only [drvs, List.headD_cons]
    generalize drvX c x = y
    unfold catX
    rcases find_isN (l := [y, .mk 6 S [x]]) with ⟨r, e, hm, h2⟩ | ⟨e, h2⟩
    · rw [e]; simp only; exact ⟨by omega, by rw [altN, if_pos h2]; omega⟩
    · rw [e]
      simp only
      have hL : catL [y, Rx.mk 6 S [x]] = catA y ++ [.mk 6 S [x]] := by simp [catL, catA, Rx.op]
      rw [hL]
      generalize catA y = L
      match L with
      | [] => simp [finX, Rx.op, altN, chA]
      | z :: L =>
        have : ∃ a b m, z :: L ++ [Rx.mk 6 S [x]] = a :: b :: m := by cases L <;> exact ⟨_, _, _, rfl⟩
        obtain ⟨a, b, m, e2⟩ := this
        rw [e2]
        simp [finX, grp, Rx.op, altN, chA]
theorem small_list {c : UInt8} : ∀ l : List Rx, (∀ x ∈ l, x.wf) → (∀ x ∈ l, x.tight) → (∀ x ∈ l, Small c x) → cnts l ≤ 7 →
    altNs (drvC c l) ≤ cnts l ∧ (∀ y ∈ drvC c l, y.arm (1 + cnts l)) ∧ (∀ D, (∀ x ∈ l, x.cnt + 3 ≤ D) → cnts l + 1 ≤ D → ∀ y ∈ drvC c l, y.dep ≤ D) ∧
    2 * cnts (drvC c l) + 4 ≤ (1 + cnts l) * (1 + cnts l) + 3 * (1 + cnts l)
  | [], _, _, _, _ => by simp [drvC, altNs, cnts]
  | x :: l, hw, ht, hs, h7 => by
    have hx := hs x (by simp)
    have hxw := hw x (by simp)
    have hxt := ht x (by simp)
    have hpos := x.cnt_pos
    rw [cnts] at h7 ⊢
    obtain ⟨i1, i2, i3, i4⟩ := small_list (c := c) l (fun y hy => hw y (by simp [hy])) (fun y hy => ht y (by simp [hy])) (fun y hy => hs y (by simp [hy])) (by omega)
    have hL : (catL (drvX c x :: l)).length ≤ x.cnt + cnts l := by
      rw [catL, List.length_append]
      have := catA_len hx.arm hpos
      have := catL_len l
      omega
    have hC : ∀ k, x.cnt + 2 ≤ k → cnts l ≤ k → (catX (drvX c x :: l)).arm (1 + (x.cnt + cnts l)) ∧ (catX (drvX c x :: l)).cnt ≤ 1 + cnts (drvX c x :: l) ∧ (catX (drvX c x :: l)).dep ≤ k + 1 := fun k h1 h2 =>
      catX_8 (by omega) (by omega) (fun y hy => by
        rcases List.mem_cons.1 hy with rfl | hy
        · exact arm_mono (by omega) _ hx.arm
        · exact arm_mono (by have := cnts_mem hy; omega) _ (arm_cnt y)) (fun y hy => by
        rcases List.mem_cons.1 hy with rfl | hy
        · have := hx.dep; omega
        · have := cnts_mem hy; have := dep_le_cnt y; omega)
    have hA := altN_cat (l := l) hx.arm hpos (drv_wf c x hxw)
    rw [drvC]
    have hif : ∀ (p : Rx → Prop), (∀ y ∈ drvC c l, p y) → ∀ y ∈ (@ite (List Rx) x.nul (Classical.propDecidable _) (drvC c l) []), p y := fun p h => by
      split
      · exact h
      · simp
    refine ⟨?_, fun y hy => ?_, fun D h1 h2 y hy => ?_, ?_⟩
    · rw [altNs]
      obtain ⟨a1, a2, a3, a4⟩ := hA
      split
      · rename_i hn
        rcases Nat.lt_or_ge x.cnt 2 with h1 | h1
        · have := a1 (cnt1 hxw hn (by omega) c); omega
        rcases Nat.lt_or_ge x.cnt 3 with h2 | h2
        · obtain ⟨b1, b2⟩ := cnt2 hxw hxt (by omega) c
          have := a4 b1
          omega
        by_cases h3 : (drvX c x).op = 2
        · have := a2 h3; omega
        · have := a4 h3
          have := altN_arm hx.arm hpos
          omega
      · simp only [altNs]; omega
    · rcases List.mem_cons.1 hy with rfl | hy
      · exact (hC (x.cnt + 2 + cnts l) (by omega) (by omega)).1
      · exact hif (fun y => y.arm (1 + (x.cnt + cnts l))) (fun y hy => arm_mono (by omega) y (i2 y hy)) y hy
    · rcases List.mem_cons.1 hy with rfl | hy
      · have := h1 x (by simp)
        have := (hC (D - 1) (by omega) (by omega)).2.2
        omega
      · exact hif (fun y => y.dep ≤ D) (i3 D (fun z hz => h1 z (by simp [hz])) (by omega)) y hy
    · have h1 := (hC (x.cnt + 2 + cnts l) (by omega) (by omega)).2.1
      have h2 := hx.cnt
      have h3 : cnts (@ite (List Rx) x.nul (Classical.propDecidable _) (drvC c l) []) ≤ cnts (drvC c l) := by
        split
        · exact Nat.le_refl _
        · simp [cnts]
      rw [cnts] at h1 ⊢
      rw [show 1 + (x.cnt + cnts l) = x.cnt + (1 + cnts l) by omega, sq_add]
      have h5 : 1 + cnts l ≤ x.cnt * (1 + cnts l) := Nat.le_mul_of_pos_left _ hpos
      omega
theorem small_drvs {c : UInt8} : ∀ l : List Rx, (∀ x ∈ l, Small c x) → altNs (drvs c l) ≤ cnts l ∧ 2 * cnts (drvs c l) ≤ cnts l * cnts l + 3 * cnts l
  | [], _ => by simp [drvs, altNs, cnts]
  | x :: l, hs => by
    have hx := hs x (by simp)
    have hpos := x.cnt_pos
    obtain ⟨i1, i2⟩ := small_drvs (c := c) l fun y hy => hs y (by simp [hy])
    have h1 := altN_arm hx.arm hpos
    have h2 := hx.cnt
    rw [drvs, altNs, cnts, cnts]
    refine ⟨by omega, ?_⟩
    rw [sq_add]
    omega
theorem dsmall_ok (c : UInt8) (r : Rx) (h : r.wf) (ht : r.tight) (h8 : r.cnt ≤ 8) : Small c r := by
  induction r using Rx.ind with
  | h o S l ih =>
  obtain ⟨h7, h9, htl⟩ := tight_sub.1 ht
  obtain ⟨hno, hl⟩ := wf_sub.1 h
  have hcn := cnt_mk o S l
  have ih : ∀ x ∈ l, Small c x := fun x hx => ih x hx (hl x hx) (htl x hx) (by have := cnts_mem hx; omega)
  have hE : ∀ r : Rx, r = rxE ∨ r = rxN → r.arm (Rx.mk o S l).cnt ∧ 2 * r.cnt + 2 ≤ (Rx.mk o S l).cnt * (Rx.mk o S l).cnt + 3 * (Rx.mk o S l).cnt ∧ r.dep ≤ (Rx.mk o S l).cnt + 2 := fun r hr => by
    have hp := (Rx.mk o S l).cnt_pos
    have : 1 ≤ (Rx.mk o S l).cnt * (Rx.mk o S l).cnt := Nat.mul_pos hp hp
    have hc : r.cnt = 1 ∧ r.dep = 1 ∧ r.subs = [] := by rcases hr with rfl | rfl <;> simp [cnt_mk, dep_mk, cnts, deps, Rx.subs]
    refine ⟨?_, by omega, by omega⟩
    rcases hr with rfl | rfl <;> exact arm_sub.2 ⟨by simp, by simp⟩
  suffices (drvX c (.mk o S l)).arm (Rx.mk o S l).cnt ∧ 2 * (drvX c (.mk o S l)).cnt + 2 ≤ (Rx.mk o S l).cnt * (Rx.mk o S l).cnt + 3 * (Rx.mk o S l).cnt ∧ (drvX c (.mk o S l)).dep ≤ (Rx.mk o S l).cnt + 2 from ⟨this.1, this.2.1, this.2.2⟩
  rw [drvX]
  unfold nodeOk at hno
  split
  · split
    · exact hE _ (.inl rfl)
    · exact hE _ (.inr rfl)
  rename_i h3
  rw [if_neg h3] at hno
  split
  · rename_i h4
    obtain ⟨i1, i2, i3, i4⟩ := small_list (c := c) l hl htl ih (by omega)
    have hlen := lenL_cnts l
    have hdep : ∀ x ∈ l, x.cnt + 3 ≤ cnts l + 2 := fun x hx => by
      obtain ⟨y, hy⟩ : ∃ y, cnts l = x.cnt + y ∧ 1 ≤ y := by
        obtain ⟨a, b, rfl⟩ := List.append_of_mem hx
        have h1 := lenL_cnts a
        have h2 := lenL_cnts b
        rw [cnts_app, cnts]
        refine ⟨cnts a + cnts b, by omega, ?_⟩
        have : 2 ≤ (a ++ x :: b).length := by omega
        simp only [List.length_append, List.length_cons] at this
        omega
      omega
    have := chX_8 (n := (Rx.mk o S l).cnt) (k := cnts l + 2) (l := drvC c l) (by omega) (by omega) (fun y hy => by rw [hcn]; exact i2 y hy) (i3 _ hdep (by omega))
    refine ⟨this.1, ?_, ?_⟩
    · rw [hcn]; omega
    · omega
  split
  · rename_i h5
    have h5 : o = 5 := by omega
    subst h5
    obtain ⟨i1, i2⟩ := small_drvs (c := c) l ih
    have hlen := lenL_cnts l
    have hm : ∀ y ∈ drvs c l, ∃ x ∈ l, y = drvX c x := fun y hy => by
      rw [drvs_map] at hy
      obtain ⟨x, hx, rfl⟩ := List.mem_map.1 hy
      exact ⟨x, hx, rfl⟩
    have := chX_8 (n := (Rx.mk 5 S l).cnt) (k := cnts l + 2) (l := drvs c l) (by omega) (by omega) (fun y hy => by
      obtain ⟨x, hx, rfl⟩ := hm y hy
      exact arm_mono (by have := cnts_mem hx; omega) _ (ih x hx).arm) (fun y hy => by
      obtain ⟨x, hx, rfl⟩ := hm y hy
      have := (ih x hx).dep
      have := cnts_mem hx; omega)
    refine ⟨this.1, ?_, ?_⟩
    · rw [hcn, sq_add]; omega
    · omega
  split
  · rename_i h6
    subst h6
    obtain ⟨x, rfl⟩ := wf1 (wf_sub.1 h).1 (.inl rfl)
    have hx := ih x (by simp)
    have hpos := x.cnt_pos
    simp only [cnts, Nat.add_zero] at hcn
    simp only [drvs, List.headD_cons]
    have hL : (catL [drvX c x, .mk 6 S [x]]).length ≤ x.cnt + 1 := by
      have := catA_len hx.arm hpos
      have : catL [drvX c x, .mk 6 S [x]] = catA (drvX c x) ++ [.mk 6 S [x]] := by simp [catL, catA, Rx.op]
      rw [this, List.length_append]
      simp; omega
    have := catX_8 (n := (Rx.mk 6 S [x]).cnt) (k := x.cnt + 2) (l := [drvX c x, .mk 6 S [x]]) (by omega) (by omega) (fun y hy => by
      simp only [List.mem_cons, List.not_mem_nil, or_false] at hy
      rcases hy with rfl | rfl
      · exact arm_mono (by omega) _ hx.arm
      · exact arm_mono (by omega) _ (arm_cnt _)) (fun y hy => by
      simp only [List.mem_cons, List.not_mem_nil, or_false] at hy
      rcases hy with rfl | rfl
      · exact hx.dep
      · have := dep_le_cnt (.mk 6 S [x]); omega)
    refine ⟨this.1, ?_, by omega⟩
    have h1 := this.2.1
    have h2 := hx.cnt
    simp only [cnts] at h1
    rw [hcn, sq_add]
    omega
  · exact hE _ (.inr rfl)
theorem drv_valid (c : UInt8) {r : Rx} (h : r.wf) (ht : r.tight) (h8 : r.cnt ≤ 8) : (drvX c r).valid := by
  have hs := dsmall_ok c r h ht h8
  have h1 := hs.cnt
  have h2 := hs.dep
  have h3 : r.cnt * r.cnt ≤ 8 * 8 := Nat.mul_le_mul h8 h8
  exact ⟨⟨by omega, by omega⟩, drv_wf c r h⟩
end Go.Ab
