/- Part of the proof. -/
import Derived.Test.YtjfahhbobiiphaaYA
set_option linter.unusedSimpArgs false
set_option linter.unusedVariables false
set_option maxHeartbeats 4000000
namespace Go.Ab
open Go Go.Ab Go.Proofs Go.Ab.Ty

/-! ### the document's reader (plain) -/
abbrev RF := List UInt8 → Rx × Option (List UInt8)
def setG : List UInt8 → List UInt8 → Rx × Option (List UInt8)
  | _, [] => (rx0, none)
  | a, c :: t => if c = 93 then (setX a, some t) else if c = 92 then (match t with
    | [] => (rx0, none)
    | d :: t2 => setG (a ++ [d]) t2) else setG (a ++ [c]) t
def atomG (E : RF) : RF
  | [] => (rx0, none)
  | c :: t => if c = 91 then setG [] t else if c = 40 then (if t.head? = some 41 then (rxE, some t.tail) else
      match (E t).2 with
      | none => (rx0, none)
      | some l => if l.head? = some 41 then ((E t).1, some l.tail) else (rx0, none))
    else if c = 92 then (match t with
      | [] => (rx0, none)
      | d :: t2 => (.mk 3 (bsL [d]) [], some t2))
    else if c ∈ spL then (rx0, none) else (.mk 3 (bsL [c]) [], some t)
theorem atomG_cons (E : RF) (c : UInt8) (t : List UInt8) : atomG E (c :: t) = if c = 91 then setG [] t else if c = 40 then (if t.head? = some 41 then (rxE, some t.tail) else
      match (E t).2 with
      | none => (rx0, none)
      | some l => if l.head? = some 41 then ((E t).1, some l.tail) else (rx0, none))
    else if c = 92 then (match t with
      | [] => (rx0, none)
      | d :: t2 => (.mk 3 (bsL [d]) [], some t2))
    else if c ∈ spL then (rx0, none) else (.mk 3 (bsL [c]) [], some t) := rfl
def loopG (P : RF) (op : Int) : Nat → List Rx → List UInt8 → Rx × Option (List UInt8)
  | 0, _, _ => (rx0, none)
  | n + 1, a, l => if l = [] ∨ l.head? = some 41 then (.mk op ByteArray.empty a, some l) else if op ≠ 4 ∧ l.head? ≠ some 124 ∧ l.head? ≠ some 38 then (rx0, none) else
    match (P (if op = 4 then l else l.tail)).2 with
    | none => (rx0, none)
    | some l2 => loopG P op n (a ++ [(P (if op = 4 then l else l.tail)).1]) l2
def joinG (P : RF) : RF := fun l =>
  match (P l).2 with
  | none => ((P l).1, none)
  | some l1 => if l1 = [] ∨ l1.head? = some 41 then ((P l).1, some l1) else loopG P (opF (l1.headD 0)) (l1.length + 1) [(P l).1] l1
def unitG : Nat → RF
  | 0, _ => (rx0, none)
  | n + 1, l => if l.head? = some 33 then (.mk 8 ByteArray.empty [(unitG n l.tail).1], (unitG n l.tail).2) else
    match (atomG (joinG (unitG n)) l).2 with
    | none => ((atomG (joinG (unitG n)) l).1, none)
    | some l1 => if l1.head? = some 42 then (.mk 6 ByteArray.empty [(atomG (joinG (unitG n)) l).1], some l1.tail) else ((atomG (joinG (unitG n)) l).1, some l1)
/-! #### what is left is an end of what was there -/
structure Sfx (P : RF) : Prop where
  ends : ∀ l l2, (P l).2 = some l2 → l2 <:+ l ∧ l2.length < l.length
theorem tail_sfx (l : List UInt8) : l.tail <:+ l := List.tail_suffix l
theorem setG_sfx : ∀ (n : Nat) (a l l2 : List UInt8), l.length ≤ n → (setG a l).2 = some l2 → l2 <:+ l ∧ l2.length < l.length
  | n, a, [], l2, _, h => by simp [setG] at h
  | 0, a, c :: t, l2, hn, h => by simp at hn
  | n + 1, a, c :: t, l2, hn, h => by
    simp only [List.length_cons] at hn
    have fin : ∀ t2 : List UInt8, t2 <:+ t → (l2 <:+ t2 ∧ l2.length < t2.length) → l2 <:+ c :: t ∧ l2.length < (c :: t).length := fun t2 h1 h2 => by
      have := h1.length_le
      exact ⟨(h2.1.trans h1).trans (List.suffix_cons c t), by simp only [List.length_cons]; omega⟩
    unfold setG at h
    split at h
    · injection h with h; subst h
      exact ⟨List.suffix_cons c t, by simp⟩
    split at h
    · match t, h with
      | d :: t2, h =>
        simp only at h
        exact fin t2 (List.suffix_cons d t2) (setG_sfx n _ t2 l2 (by simp at hn; omega) h)
    · exact fin t (List.suffix_refl t) (setG_sfx n _ t l2 (by omega) h)
theorem Sfx.atom {E : RF} (hE : ∀ l l2, (E l).2 = some l2 → l2 <:+ l) : Sfx (atomG E) := by
  refine ⟨fun l l2 h => ?_⟩
  match l with
  | [] => simp [atomG] at h
  | c :: t =>
  have fin : ∀ t2 : List UInt8, t2 <:+ t → t2 <:+ c :: t ∧ t2.length < (c :: t).length := fun t2 h1 => by
    have := h1.length_le
    exact ⟨h1.trans (List.suffix_cons c t), by simp only [List.length_cons]; omega⟩
  rw [atomG_cons] at h
  split at h
  · exact fin _ (setG_sfx _ _ _ _ (Nat.le_refl _) h).1
  split at h
  · split at h
    · injection h with h; subst h
      exact fin _ (tail_sfx t)
    · cases he : (E t).2 with
      | none => rw [he] at h; simp at h
      | some l3 =>
        rw [he] at h
        simp only at h
        split at h
        · injection h with h; subst h
          exact fin _ ((tail_sfx l3).trans (hE _ _ he))
        · simp at h
  split at h
  · match t, h with
    | d :: t2, h =>
      injection h with h; subst h
      exact fin _ (List.suffix_cons d t2)
  split at h
  · simp at h
  · injection h with h; subst h
    exact fin _ (List.suffix_refl t)
theorem loopG_sfx {P : RF} (hP : Sfx P) (op : Int) : ∀ n a l l2, (loopG P op n a l).2 = some l2 → l2 <:+ l
  | 0, a, l, l2, h => by simp [loopG] at h
  | n + 1, a, l, l2, h => by
    unfold loopG at h
    split at h
    · injection h with h; subst h; exact List.suffix_refl _
    split at h
    · simp at h
    · cases he : (P (if op = 4 then l else l.tail)).2 with
      | none => rw [he] at h; simp at h
      | some l3 =>
        rw [he] at h
        simp only at h
        have h1 := loopG_sfx hP op n _ _ _ h
        have h2 := (hP.ends _ _ he).1
        refine h1.trans (h2.trans ?_)
        split
        · exact List.suffix_refl _
        · exact tail_sfx l
theorem joinG_sfx {P : RF} (hP : Sfx P) (l l2 : List UInt8) (h : (joinG P l).2 = some l2) : l2 <:+ l := by
  unfold joinG at h
  cases he : (P l).2 with
  | none => rw [he] at h; simp at h
  | some l1 =>
    rw [he] at h
    simp only at h
    have h1 := (hP.ends _ _ he).1
    split at h
    · injection h with h; subst h; exact h1
    · exact (loopG_sfx hP _ _ _ _ _ h).trans h1
theorem unitG_sfx : ∀ n, Sfx (unitG n)
  | 0 => ⟨fun l l2 h => by simp [unitG] at h⟩
  | n + 1 => ⟨fun l l2 h => by
    have ih := unitG_sfx n
    have hA := Sfx.atom (joinG_sfx ih)
    unfold unitG at h
    split at h
    · rename_i h33
      have h1 := ih.ends _ _ h
      have h2 : l.tail.length ≤ l.length := (tail_sfx l).length_le
      exact ⟨h1.1.trans (tail_sfx l), by omega⟩
    · cases he : (atomG (joinG (unitG n)) l).2 with
      | none => rw [he] at h; simp at h
      | some l1 =>
        rw [he] at h
        simp only at h
        have h1 := hA.ends _ _ he
        split at h
        · injection h with h; subst h
          have := (tail_sfx l1).length_le
          exact ⟨(tail_sfx l1).trans h1.1, by omega⟩
        · injection h with h; subst h; exact h1⟩
end Go.Ab
set_option maxHeartbeats 4000000
namespace Go.Ab
open Go Go.Ab Go.Proofs Go.Ab.Ty

/-! ### the document's reader reads what is written (plain) -/
theorem setG_cons (a : List UInt8) (c : UInt8) (t : List UInt8) : setG a (c :: t) = if c = 93 then (setX a, some t) else if c = 92 then (match t with
    | [] => (rx0, none)
    | d :: t2 => setG (a ++ [d]) t2) else setG (a ++ [c]) t := by cases t <;> simp [setG]
theorem setG_ok : ∀ (s a rest : List UInt8), setG a (escB [92, 91, 93] s ++ 93 :: rest) = (setX (a ++ s), some rest)
  | [], a, rest => by
    simp only [escB, List.nil_append]
    rw [setG_cons, if_pos rfl]; simp
  | c :: s, a, rest => by
    have ih := setG_ok s (a ++ [c]) rest
    rw [escB]
    split
    · simp only [List.cons_append, List.nil_append]
      rw [setG_cons, if_neg (by decide), if_pos rfl]
      simp only
      rw [ih]; simp
    · rename_i hm
      simp only [List.mem_cons, List.not_mem_nil, or_false, not_or] at hm
      simp only [List.cons_append, List.nil_append]
      rw [setG_cons, if_neg hm.2.2, if_neg hm.1, ih]; simp
def PCg (x : Rx) : Prop := ∀ n rest, (txt x ++ rest).length < n → rs42 rest → x.op ≠ 4 → x.op ≠ 5 → x.op ≠ 7 → unitG n (txt x ++ rest) = (x, some rest)
def ECg (x : Rx) : Prop := ∀ n rest, (txt x ++ rest).length < n → rsE rest → joinG (unitG n) (txt x ++ rest) = (x, some rest)
theorem atomG_wrapped {x : Rx} (hw : x.wf) (h : ECg x) {n : Nat} (rest : List UInt8) (hn : (40 :: (txt x ++ [41]) ++ rest).length < n + 1) : atomG (joinG (unitG n)) (40 :: (txt x ++ [41]) ++ rest) = (x, some rest) := by
  obtain ⟨c, t, ht, h0, h41, _⟩ := (txt_hd x hw).1
  have h4 : (40 :: (txt x ++ [41]) ++ rest) = 40 :: (txt x ++ 41 :: rest) := by simp
  rw [h4] at hn ⊢
  rw [List.length_cons] at hn
  have h2 := h n (41 :: rest) (by omega) (.inr rfl)
  have h3 : (txt x ++ 41 :: rest).head? ≠ some 41 := by
    rw [ht]; simp only [List.cons_append, List.head?_cons]; intro e; injection e with e; exact h41 e
  rw [atomG_cons, if_neg (by decide), if_pos rfl, if_neg h3, h2]
  simp
theorem unitG_atom {x : Rx} {n : Nat} {l rest : List UInt8} (h33 : l.head? ≠ some 33) (hA : atomG (joinG (unitG n)) l = (x, some rest)) (hr : rs42 rest) : unitG (n + 1) l = (x, some rest) := by
  rw [unitG, if_neg h33, hA]
  simp only
  rw [if_neg hr]
theorem unitG_star {x : Rx} {n : Nat} {l rest : List UInt8} (h33 : l.head? ≠ some 33) (hA : atomG (joinG (unitG n)) l = (x, some (42 :: rest))) : unitG (n + 1) l = (.mk 6 ByteArray.empty [x], some rest) := by
  rw [unitG, if_neg h33, hA]
  simp
theorem ug_wrapped {x : Rx} (hw : x.wf) (h : ECg x) {n : Nat} {rest : List UInt8} (hn : (40 :: (txt x ++ [41]) ++ rest).length < n) (hr : rs42 rest) : unitG n (40 :: (txt x ++ [41]) ++ rest) = (x, some rest) := by
  obtain ⟨n, rfl⟩ : ∃ m, n = m + 1 := ⟨n - 1, by omega⟩
  exact unitG_atom (by simp) (atomG_wrapped hw h rest hn) hr
theorem ug_sub {x : Rx} (hw : x.wf) (h : ECg x) (h2 : PCg x) {op : Int} {n : Nat} {rest : List UInt8} (hn : (sbx op x ++ rest).length < n) (hr : rs42 rest) : unitG n (sbx op x ++ rest) = (x, some rest) := by
  unfold sbx at hn ⊢
  split
  · rename_i hw1
    rw [if_pos hw1] at hn
    exact ug_wrapped hw h hn hr
  · rename_i hn2
    rw [if_neg hn2] at hn
    have : ¬ (x.op = 5 ∨ x.op = 7 ∨ x.op = 4) := fun h => hn2 (by unfold wrp; rw [decide_eq_true_iff]; omega)
    exact h2 n rest hn hr (by omega) (by omega) (by omega)
theorem loopG_ok {P : RF} {op : Int} {N : Nat} (ho : op = 4 ∨ op = 5 ∨ op = 7) {rest : List UInt8} (hr : rsE rest) : ∀ (L : List Rx) (n : Nat) (acc : List Rx), L.length < n → (∀ x ∈ L, x.wf) → (((L.map (sbx op)).map (sepO op ++ ·)).flatten ++ rest).length < N → (∀ x ∈ L, ∀ r2, (sbx op x ++ r2).length < N → rs42 r2 → P (sbx op x ++ r2) = (x, some r2)) →
    loopG P op n acc (((L.map (sbx op)).map (sepO op ++ ·)).flatten ++ rest) = (.mk op ByteArray.empty (acc ++ L), some rest)
  | [], n + 1, acc, _, _, _, _ => by
    rw [loopG]
    simp only [List.map_nil, List.flatten_nil, List.nil_append]
    rw [if_pos (show rest = [] ∨ rest.head? = some 41 from hr)]; simp
  | x :: L, n + 1, acc, hn, hw, hN, hP => by
    obtain ⟨c, t, ht, h0, h41, h42, h124, h38⟩ := (txt_hd x (hw x (by simp))).2 op
    obtain ⟨R, hR⟩ : ∃ R, R = ((L.map (sbx op)).map (sepO op ++ ·)).flatten ++ rest := ⟨_, rfl⟩
    have hall : ((((x :: L).map (sbx op)).map (sepO op ++ ·)).flatten ++ rest) = sepO op ++ (sbx op x ++ R) := by
      rw [hR]; simp
    rw [hall] at hN ⊢
    have hN2 : (sbx op x ++ R).length < N := by rw [List.length_append] at hN; omega
    have hN3 : R.length < N := by rw [List.length_append] at hN2; omega
    rw [hR] at hN3
    have ih := loopG_ok ho hr L n (acc ++ [x]) (by simp at hn; omega) (fun y hy => hw y (by simp [hy])) hN3 fun y hy => hP y (by simp [hy])
    rw [← hR] at ih
    have hR42 : rs42 R := by
      cases L with
      | nil => rw [hR]; exact rsE_42 hr
      | cons y L =>
        obtain ⟨c2, t2, ht2, g0, g41, g42, _⟩ := (txt_hd y (hw y (by simp))).2 op
        rw [hR]
        unfold rs42 sepO
        simp only [List.map_cons, List.flatten_cons]
        rw [ht2]
        rcases ho with rfl | rfl | rfl
        · simp; exact g42
        · simp
        · simp
    have hp := hP x (by simp) R hN2 hR42
    have hg : ¬ (sepO op ++ (sbx op x ++ R) = [] ∨ (sepO op ++ (sbx op x ++ R)).head? = some 41) := by
      unfold sepO
      rw [ht]
      rcases ho with rfl | rfl | rfl <;> simp [h0, h41]
    have hb : ¬ (op ≠ 4 ∧ (sepO op ++ (sbx op x ++ R)).head? ≠ some 124 ∧ (sepO op ++ (sbx op x ++ R)).head? ≠ some 38) := by
      unfold sepO
      rcases ho with rfl | rfl | rfl <;> simp
    have hs : (if op = 4 then sepO op ++ (sbx op x ++ R) else (sepO op ++ (sbx op x ++ R)).tail) = sbx op x ++ R := by
      unfold sepO
      rcases ho with rfl | rfl | rfl <;> simp
    rw [loopG, if_neg hg, if_neg hb, hs, hp]
    simp only
    rw [ih]
    simp
theorem atomG_plain {x : Rx} (h : x.wf) (ho : x.op = 1 ∨ x.op = 2 ∨ x.op = 3) (E : RF) (rest : List UInt8) : atomG E (txt x ++ rest) = (x, some rest) ∧ (txt x ++ rest).head? ≠ some 33 := by
  obtain ⟨o, s, l⟩ := x
  have ho : o = 1 ∨ o = 2 ∨ o = 3 := ho
  obtain ⟨hno, hl⟩ := wf_sub.1 h
  unfold nodeOk at hno
  have hse : o ≠ 3 → s = ByteArray.empty := fun h3 => by
    rw [if_neg h3] at hno; exact (bs_e s).2 hno.1
  by_cases h3 : o = 3
  · subst h3
    obtain ⟨rfl, hs0, hs64, hok⟩ := wf_set h
    rw [txt, if_neg (by omega), if_neg (by omega), if_pos rfl]
    split
    · rename_i h1
      obtain ⟨c, hc, hS⟩ := one_list h1
      rw [hc, escB, escB, List.append_nil]
      split
      · refine ⟨?_, by simp⟩
        simp only [List.cons_append, List.nil_append]
        rw [atomG_cons, if_neg (by decide), if_neg (by decide), if_pos rfl]
        simp [hS]
      · rename_i hm
        have hm2 := hm
        simp only [spL, List.mem_cons, List.not_mem_nil, or_false, not_or] at hm
        refine ⟨?_, by simp; exact hm.2.2.2.2.2.2.2.2⟩
        simp only [List.cons_append, List.nil_append]
        rw [atomG_cons, if_neg hm.2.2.2.1, if_neg hm.2.1, if_neg hm.1, if_neg hm2]
        simp [hS]
    · rename_i h1
      refine ⟨?_, by simp⟩
      have hsl : s.data.toList.length = s.size := by rw [Array.length_toList]; rfl
      have h2 : (91 :: (escB [92, 91, 93] s.data.toList ++ [93]) ++ rest) = 91 :: (escB [92, 91, 93] s.data.toList ++ 93 :: rest) := by simp
      rw [h2, atomG_cons, if_pos rfl, setG_ok]
      simp only [List.nil_append, setX]
      rw [if_neg (by intro e; rw [e] at hsl; simp at hsl; omega)]
  rw [if_neg h3] at hno
  have hl0 : l = [] := List.eq_nil_of_length_eq_zero (by omega)
  subst hl0
  rcases ho with h1 | h1 | h1
  · subst h1
    rw [hse h3, txt, if_pos rfl] at *
    refine ⟨?_, by simp⟩
    simp only [List.cons_append, List.nil_append]
    rw [atomG_cons, if_pos rfl, setG_cons, if_pos rfl]
    simp [setX]
  · subst h1
    rw [hse h3, txt, if_neg (by omega), if_pos rfl] at *
    refine ⟨?_, by simp⟩
    simp only [List.cons_append, List.nil_append]
    rw [atomG_cons, if_neg (by decide), if_pos rfl, if_pos (by simp)]
    simp
  · exact absurd h1 h3
theorem ug_jg (r : Rx) (h : r.wf) : PCg r ∧ ECg r := by
  induction r using Rx.ind with
  | h o s l ih =>
  obtain ⟨hno, hl⟩ := wf_sub.1 h
  have ih := fun x hx => ih x hx (hl x hx)
  have hno2 := hno
  unfold nodeOk at hno
  have hse : o ≠ 3 → s = ByteArray.empty := fun h3 => by
    rw [if_neg h3] at hno; exact (bs_e s).2 hno.1
  have hPC : PCg (.mk o s l) := by
    intro n rest hn hr h4 h5 h7
    have h4 : o ≠ 4 := h4
    have h5 : o ≠ 5 := h5
    have h7 : o ≠ 7 := h7
    obtain ⟨n, rfl⟩ : ∃ m, n = m + 1 := ⟨n - 1, by omega⟩
    by_cases h3 : o = 3
    · obtain ⟨a, b⟩ := atomG_plain h (.inr (.inr h3)) (joinG (unitG n)) rest
      exact unitG_atom b a hr
    rw [if_neg h3] at hno
    rcases hno.2 with ⟨h1 | h1, h2⟩ | ⟨h1, _⟩ | ⟨h1 | h1, h2⟩
    · obtain ⟨a, b⟩ := atomG_plain h (.inl h1) (joinG (unitG n)) rest
      exact unitG_atom b a hr
    · obtain ⟨a, b⟩ := atomG_plain h (.inr (.inl h1)) (joinG (unitG n)) rest
      exact unitG_atom b a hr
    · omega
    · subst h1
      match l, h2 with
      | [x], _ =>
        obtain ⟨ipc, iec⟩ := ih x (by simp)
        have hxw := hl x (by simp)
        rw [txt, if_neg (by omega), if_neg (by omega), if_neg (by omega), if_neg (by omega), if_neg (by omega), if_pos rfl, txs_map] at hn ⊢
        simp only [List.map_cons, List.map_nil, List.headD_cons] at hn ⊢
        have h2 : (sbx 6 x ++ [42]) ++ rest = sbx 6 x ++ (42 :: rest) := by simp
        rw [h2] at hn ⊢
        have hat : atomG (joinG (unitG n)) (sbx 6 x ++ (42 :: rest)) = (x, some (42 :: rest)) ∧ (sbx 6 x ++ (42 :: rest)).head? ≠ some 33 := by
          unfold sbx at hn ⊢
          split
          · rename_i hw1
            rw [if_pos hw1] at hn
            exact ⟨atomG_wrapped hxw iec _ hn, by simp⟩
          · rename_i hw
            have : ¬ (x.op = 5 ∨ x.op = 7 ∨ x.op = 4 ∨ x.op = 8 ∨ x.op = 6) := fun h => hw (by unfold wrp; rw [decide_eq_true_iff]; omega)
            have hop : x.op = 1 ∨ x.op = 2 ∨ x.op = 3 := by
              obtain ⟨o1, s1, l1⟩ := x
              have h9 := (wf_sub.1 hxw).1
              have this : ¬ (o1 = 5 ∨ o1 = 7 ∨ o1 = 4 ∨ o1 = 8 ∨ o1 = 6) := this
              show o1 = 1 ∨ o1 = 2 ∨ o1 = 3
              unfold nodeOk at h9
              split at h9 <;> omega
            exact atomG_plain hxw hop _ _
        rw [unitG_star hat.2 hat.1, hse h3]
    · subst h1
      match l, h2 with
      | [x], _ =>
        obtain ⟨ipc, iec⟩ := ih x (by simp)
        have hxw := hl x (by simp)
        rw [txt, if_neg (by omega), if_neg (by omega), if_neg (by omega), if_neg (by omega), if_neg (by omega), if_neg (by omega), if_pos rfl, txs_map] at hn ⊢
        simp only [List.map_cons, List.map_nil, List.headD_cons, List.cons_append] at hn ⊢
        rw [unitG, if_pos List.head?_cons, List.tail_cons, ug_sub hxw iec ipc (by rw [List.length_cons] at hn; omega) hr, hse h3]
  refine ⟨hPC, fun n rest hn hr => ?_⟩
  by_cases hj : o = 4 ∨ o = 5 ∨ o = 7
  · rw [if_neg (by omega)] at hno
    have h2 : 2 ≤ l.length := by omega
    match l, h2 with
    | x :: y :: L, _ =>
    have hP : ∀ z ∈ x :: y :: L, ∀ r2, (sbx o z ++ r2).length < n → rs42 r2 → unitG n (sbx o z ++ r2) = (z, some r2) := fun z hz r2 hr1 hr2 => ug_sub (hl z hz) (ih z hz).2 (ih z hz).1 hr1 hr2
    have htx : txt (.mk o s (x :: y :: L)) = Lib.join (txs o (x :: y :: L)) (sepO o) := by
      rw [txt]
      unfold sepO
      rcases hj with rfl | rfl | rfl <;> simp
    obtain ⟨R, hR⟩ : ∃ R, R = (((y :: L).map (sbx o)).map (sepO o ++ ·)).flatten ++ rest := ⟨_, rfl⟩
    obtain ⟨c2, t2, ht2, g0, g41, g42, g124, g38⟩ := (txt_hd y (hl y (by simp))).2 o
    have hRh : rs42 R ∧ opF (R.headD 0) = o ∧ ¬ (R = [] ∨ R.head? = some 41) := by
      rw [hR]
      unfold rs42 sepO opF
      simp only [List.map_cons, List.flatten_cons]
      rw [ht2]
      rcases hj with rfl | rfl | rfl <;> simp [g41, g42, g124, g38]
    have hall : txt (.mk o s (x :: y :: L)) ++ rest = sbx o x ++ R := by
      rw [htx, txs_map, List.map_cons, join_cons, hR]; simp
    rw [hall] at hn ⊢
    have hp := hP x (by simp) R hn hRh.1
    have hRn : R.length < n := by rw [List.length_append] at hn; omega
    have hlp := loopG_ok (P := unitG n) (N := n) hj hr (y :: L) (R.length + 1) [x] (by
      have : ∀ M : List Rx, (∀ z ∈ M, z.wf) → M.length ≤ ((M.map (sbx o)).map (sepO o ++ ·)).flatten.length := fun M => by
        induction M with
        | nil => simp
        | cons z M ihM =>
          intro hM
          have := ihM fun w hw => hM w (by simp [hw])
          obtain ⟨c, t, hc, _⟩ := (txt_hd z (hM z (by simp))).2 o
          simp only [List.map_cons, List.flatten_cons, List.length_append, List.length_cons]
          rw [hc, List.length_cons]; omega
      have := this (y :: L) fun z hz => hl z (by simp at hz ⊢; exact .inr hz)
      rw [hR, List.length_append]; omega) (fun z hz => hl z (by simp at hz ⊢; exact .inr hz)) (by rw [← hR]; exact hRn) (fun z hz => hP z (by simp at hz ⊢; exact .inr hz))
    rw [← hR] at hlp
    unfold joinG
    rw [hp]
    simp only
    rw [if_neg hRh.2.2, hRh.2.1, hlp, hse (by omega)]
    simp
  · have hp := hPC n rest hn (rsE_42 hr) (fun e => hj (.inl e)) (fun e => hj (.inr (.inl e))) (fun e => hj (.inr (.inr e)))
    unfold joinG
    rw [hp]
    simp only
    rw [if_pos (show rest = [] ∨ rest.head? = some 41 from hr)]
end Go.Ab
