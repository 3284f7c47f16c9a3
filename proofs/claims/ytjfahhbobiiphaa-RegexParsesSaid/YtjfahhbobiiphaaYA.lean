/- Part of the proof. -/
import Derived.Test.YtjfahhbobiiphaaXZ
set_option linter.unusedSimpArgs false
set_option linter.unusedVariables false
set_option maxHeartbeats 4000000
namespace Go.Ab
open Go Go.Ab Go.Proofs Go.Ab.Ty

/-! ### the reader reads what is written (plain) -/
theorem an_cons {c : UInt8} {l : List UInt8} (h : c ≠ 0) : an (c :: l) false = (c, l, false) := by simp [an, nx, h]
theorem tk_hit {c : UInt8} {l : List UInt8} (h : c ≠ 0) : tk c (c :: l) false = (true, l) := by simp [tk, h]
theorem tk_miss {c : UInt8} {l : List UInt8} (h : l.head? ≠ some c) : tk c l false = (false, l) := by
  unfold tk; rw [if_neg]; exact fun h2 => h h2.2.2
theorem setF_ok : ∀ (s : List UInt8) (n : Nat) (a rest : List UInt8), s.length < n → (∀ c ∈ s, c ≠ 0) → setF n a (escB [92, 91, 93] s ++ 93 :: rest) false = (a ++ s, rest, false)
  | [], n + 1, a, rest, hn, h => by
    rw [setF, if_neg (by simp)]
    simp only [escB, List.nil_append]
    simp [tk_hit (show (93 : UInt8) ≠ 0 by decide)]
  | c :: s, n + 1, a, rest, hn, h => by
    have hc := h c (by simp)
    have ih := setF_ok s n (a ++ [c]) rest (by simp at hn; omega) fun x hx => h x (by simp [hx])
    have hS : setC (escB [92, 91, 93] (c :: s) ++ 93 :: rest) false = (c, escB [92, 91, 93] s ++ 93 :: rest, false) := by
      rw [escB]
      split
      · unfold setC
        rw [List.append_assoc, List.cons_append, an_cons (by decide), if_pos rfl]
        simp only [List.cons_append, List.nil_append]
        exact an_cons hc
      · rename_i hm
        unfold setC
        rw [List.append_assoc, List.cons_append, an_cons hc, if_neg (by intro e; have e : c = 92 := e; exact hm (by simp [e])), List.nil_append]
    have hT : tk 93 (escB [92, 91, 93] (c :: s) ++ 93 :: rest) false = (false, escB [92, 91, 93] (c :: s) ++ 93 :: rest) := tk_miss (by
      rw [escB]
      split
      · simp
      · rename_i hm
        simp only [List.cons_append, List.head?_cons]
        intro e
        injection e with e
        exact hm (by simp [e]))
    rw [setF, if_neg (by simp), hT, if_neg (by simp), hS, ih]
    simp
def hdOk (l : List UInt8) : Prop := ∃ c t, l = c :: t ∧ c ≠ 0 ∧ c ≠ 41 ∧ c ≠ 42 ∧ c ≠ 124 ∧ c ≠ 38
theorem hdOk_app {a b : List UInt8} (h : hdOk a) : hdOk (a ++ b) := by
  obtain ⟨c, t, rfl, h⟩ := h
  exact ⟨c, t ++ b, rfl, h⟩
theorem join_cons (sep : List UInt8) : ∀ (a : List UInt8) (L : List (List UInt8)), Lib.join (a :: L) sep = a ++ (L.map (sep ++ ·)).flatten
  | a, [] => by simp [Lib.join]
  | a, b :: L => by
    have := join_cons sep b L
    simp only [Lib.join, List.intercalate_cons_cons, List.map_cons, List.flatten_cons] at this ⊢
    rw [this]; simp
theorem okB_ne {c : UInt8} (h : okB c) : c ≠ 0 := by
  rintro rfl; exact absurd h.1 (by decide)
theorem wf_set {S : ByteArray} {l : List Rx} (h : (Rx.mk 3 S l).wf) : l = [] ∧ 0 < S.size ∧ S.size ≤ 64 ∧ ∀ c ∈ S.data.toList, okB c := by
  have hno := (wf_sub.1 h).1
  unfold nodeOk at hno
  rw [if_pos rfl] at hno
  refine ⟨List.eq_nil_of_length_eq_zero hno.1, hno.2.1, hno.2.2.1, fun c hc => ?_⟩
  obtain ⟨i, hi, rfl⟩ := List.mem_iff_getElem.1 hc
  have hi2 : i < S.size := by rw [Array.length_toList] at hi; exact hi
  have := hno.2.2.2 i hi2 hi2
  have h3 : S.data.toList[i] = S[i] := by simp; rfl
  rw [h3]; exact this.1
theorem one_list {S : ByteArray} (h : S.size = 1) : ∃ c, S.data.toList = [c] ∧ S = bsL [c] := by
  have hl : S.data.toList.length = 1 := by rw [Array.length_toList]; exact h
  match hS : S.data.toList, hl with
  | [c], _ => exact ⟨c, rfl, by rw [← hS]⟩
theorem txt_hd (r : Rx) (h : r.wf) : hdOk (txt r) ∧ ∀ op, hdOk (sbx op r) := by
  have key : hdOk (txt r) → hdOk (txt r) ∧ ∀ op, hdOk (sbx op r) := fun h => ⟨h, fun op => by
    unfold sbx
    split
    · exact ⟨40, _, rfl, by decide⟩
    · exact h⟩
  induction r using Rx.ind with
  | h o s l ih =>
  apply key
  obtain ⟨hno, hl⟩ := wf_sub.1 h
  have hsub : ∀ op, ∀ x ∈ l, hdOk (sbx op x) := fun op x hx => (ih x hx (hl x hx) (fun h => ⟨h, fun op => by
    unfold sbx
    split
    · exact ⟨40, _, rfl, by decide⟩
    · exact h⟩)).2 op
  have hj : ∀ op sep, 1 ≤ l.length → hdOk (Lib.join (txs op l) sep) := fun op sep hl1 => by
    match l, hl1 with
    | x :: L, _ =>
      rw [txs_map, List.map_cons, join_cons]
      exact hdOk_app (hsub op x (by simp))
  have hh : ∀ op, 1 ≤ l.length → hdOk ((txs op l).headD []) := fun op hl1 => by
    match l, hl1 with
    | x :: L, _ =>
      rw [txs_map, List.map_cons, List.headD_cons]
      exact hsub op x (by simp)
  rw [txt]
  unfold nodeOk at hno
  split
  · exact ⟨91, _, rfl, by decide⟩
  split
  · exact ⟨40, _, rfl, by decide⟩
  split
  · rename_i h3
    subst h3
    obtain ⟨_, _, _, hok⟩ := wf_set h
    split
    · rename_i h1
      obtain ⟨c, hc, _⟩ := one_list h1
      rw [hc] at hok ⊢
      rw [escB]
      split
      · exact ⟨92, _, rfl, by decide⟩
      · rename_i hm
        refine ⟨c, _, rfl, okB_ne (hok c (by simp)), ?_⟩
        simp only [spL, List.mem_cons, List.not_mem_nil, or_false, not_or] at hm
        exact ⟨hm.2.2.1, hm.2.2.2.2.2.2.2.1, hm.2.2.2.2.2.1, hm.2.2.2.2.2.2.1⟩
    · exact ⟨91, _, rfl, by decide⟩
  rename_i h1 h2 h3
  rw [if_neg h3] at hno
  split
  · exact hj 5 [124] (by omega)
  split
  · exact hj 7 [38] (by omega)
  split
  · exact hdOk_app (hh 6 (by omega))
  split
  · exact ⟨33, _, rfl, by decide⟩
  · exact hj o [] (by omega)
def rs42 (l : List UInt8) : Prop := l.head? ≠ some 42
def rsE (l : List UInt8) : Prop := l = [] ∨ l.head? = some 41
theorem rsE_42 {l : List UInt8} (h : rsE l) : rs42 l := by
  unfold rs42
  rcases h with rfl | h
  · simp
  · rw [h]; decide
theorem goes_no {l : List UInt8} (h : rsE l) : goes l false = false := by
  unfold goes nx
  rcases h with rfl | h
  · simp
  · cases l with
    | nil => cases h
    | cons c t => simp only [List.head?_cons, Option.some.injEq] at h; subst h; simp
def PC (x : Rx) : Prop := ∀ n rest, 2 * x.dep ≤ n → rs42 rest → x.op ≠ 4 → x.op ≠ 5 → x.op ≠ 7 → pcF n (txt x ++ rest) false = (x, rest, false)
def EC (x : Rx) : Prop := ∀ n rest, 2 * x.dep ≤ n → rsE rest → exF (pcF n) (txt x ++ rest) false = (x, rest, false)
theorem atom_wrapped {x : Rx} (hw : x.wf) (h : EC x) {n : Nat} (hn : 2 * x.dep ≤ n) (rest : List UInt8) : atomF (exF (pcF n)) (40 :: (txt x ++ [41]) ++ rest) false = (x, rest, false) := by
  obtain ⟨c, t, ht, h0, h41, _⟩ := (txt_hd x hw).1
  have h2 := h n (41 :: rest) hn (.inr rfl)
  have h3 : tk 41 (txt x ++ 41 :: rest) false = (false, txt x ++ 41 :: rest) := tk_miss (by
    rw [ht]; simp only [List.cons_append, List.head?_cons]; intro e; injection e with e; exact h41 e)
  have h4 : (40 :: (txt x ++ [41]) ++ rest) = 40 :: (txt x ++ 41 :: rest) := by simp
  rw [h4]
  simp only [atomF, an_cons (show (40 : UInt8) ≠ 0 by decide), if_true, h3, h2]
  simp [tk_hit (show (41 : UInt8) ≠ 0 by decide)]
theorem pc_wrapped {x : Rx} (hw : x.wf) (h : EC x) {n : Nat} (hn : 2 * x.dep + 1 ≤ n) {rest : List UInt8} (hr : rs42 rest) : pcF n (40 :: (txt x ++ [41]) ++ rest) false = (x, rest, false) := by
  obtain ⟨n, rfl⟩ : ∃ m, n = m + 1 := ⟨n - 1, by omega⟩
  rw [pcF, if_neg (by simp), tk_miss (by simp), if_neg (by simp)]
  simp only
  rw [atom_wrapped hw h (by omega) rest]
  simp only
  rw [tk_miss hr]
  simp
theorem pc_sub {x : Rx} (hw : x.wf) (h : EC x) (h2 : PC x) {op : Int} {n : Nat} (hn : 2 * x.dep + 1 ≤ n) {rest : List UInt8} (hr : rs42 rest) : pcF n (sbx op x ++ rest) false = (x, rest, false) := by
  unfold sbx
  split
  · exact pc_wrapped hw h hn hr
  · rename_i hn2
    have : ¬ (x.op = 5 ∨ x.op = 7 ∨ x.op = 4) := fun h => hn2 (by unfold wrp; rw [decide_eq_true_iff]; omega)
    exact h2 n rest (by omega) hr (by omega) (by omega) (by omega)
def sepO (op : Int) : List UInt8 := if op = 5 then [124] else if op = 7 then [38] else []
theorem loop_ok {P : PF} {op : Int} (ho : op = 4 ∨ op = 5 ∨ op = 7) {rest : List UInt8} (hr : rsE rest) : ∀ (L : List Rx) (n : Nat) (acc : List Rx), L.length < n → (∀ x ∈ L, x.wf) → (∀ x ∈ L, ∀ r2, rs42 r2 → P (sbx op x ++ r2) false = (x, r2, false)) →
    loopF P op n acc (((L.map (sbx op)).map (sepO op ++ ·)).flatten ++ rest) false = (acc ++ L, rest, false)
  | [], n + 1, acc, _, _, _ => by
    rw [loopF]
    simp only [List.map_nil, List.flatten_nil, List.nil_append]
    rw [goes_no hr]; simp
  | x :: L, n + 1, acc, hn, hw, hP => by
    obtain ⟨c, t, ht, h0, h41, h42, h124, h38⟩ := (txt_hd x (hw x (by simp))).2 op
    obtain ⟨R, hR⟩ : ∃ R, R = ((L.map (sbx op)).map (sepO op ++ ·)).flatten ++ rest := ⟨_, rfl⟩
    have ih := loop_ok ho hr L n (acc ++ [x]) (by simp at hn; omega) (fun y hy => hw y (by simp [hy])) fun y hy => hP y (by simp [hy])
    rw [← hR] at ih
    have hR42 : rs42 R := by
      cases L with
      | nil => rw [hR]; exact rsE_42 hr
      | cons y L =>
        obtain ⟨c2, t2, ht2, g0, g41, g42, _⟩ := (txt_hd y (hw y (by simp))).2 op
        rw [hR]
        unfold rs42 sepO
        simp only [List.map_cons, List.flatten_cons]
        rw [ht2]
        rcases ho with rfl | rfl | rfl
        · simp; exact g42
        · simp
        · simp
    have hp := hP x (by simp) R hR42
    have hall : ((((x :: L).map (sbx op)).map (sepO op ++ ·)).flatten ++ rest) = sepO op ++ (sbx op x ++ R) := by
      rw [hR]; simp
    rw [hall]
    have hg : goes (sepO op ++ (sbx op x ++ R)) false = true := by
      unfold goes nx sepO
      rw [ht]
      rcases ho with rfl | rfl | rfl <;> simp [h0, h41]
    have hb : badF op (sepO op ++ (sbx op x ++ R)) false = (false, sbx op x ++ R) := by
      unfold badF sepO
      rw [ht]
      rcases ho with rfl | rfl | rfl
      · simp [nx, h124, h38]
      · simp [tk]
      · simp [tk]
    rw [loopF, if_pos hg, hb]
    simp only [Bool.or_self]
    rw [hp]
    simp only
    rw [ih]
    simp
theorem atom_plain {x : Rx} (h : x.wf) (ho : x.op = 1 ∨ x.op = 2 ∨ x.op = 3) (E : PF) (rest : List UInt8) : atomF E (txt x ++ rest) false = (x, rest, false) ∧ tk 33 (txt x ++ rest) false = (false, txt x ++ rest) := by
  obtain ⟨o, s, l⟩ := x
  have ho : o = 1 ∨ o = 2 ∨ o = 3 := ho
  obtain ⟨hno, hl⟩ := wf_sub.1 h
  unfold nodeOk at hno
  have hse : o ≠ 3 → s = ByteArray.empty := fun h3 => by
    rw [if_neg h3] at hno; exact (bs_e s).2 hno.1
  by_cases h3 : o = 3
  · subst h3
    obtain ⟨rfl, hs0, hs64, hok⟩ := wf_set h
    rw [txt, if_neg (by omega), if_neg (by omega), if_pos rfl]
    split
    · rename_i h1
      obtain ⟨c, hc, hS⟩ := one_list h1
      have hc0 : c ≠ 0 := okB_ne (hok c (by rw [hc]; simp))
      rw [hc, escB, escB, List.append_nil]
      split
      · refine ⟨?_, tk_miss (by simp)⟩
        simp only [List.cons_append, List.nil_append, atomF, an_cons (show (92 : UInt8) ≠ 0 by decide), an_cons hc0]
        simp [hS]
      · rename_i hm
        simp only [spL, List.mem_cons, List.not_mem_nil, or_false, not_or] at hm
        refine ⟨?_, tk_miss (by simp; exact hm.2.2.2.2.2.2.2.2)⟩
        simp only [List.cons_append, List.nil_append, atomF, an_cons hc0]
        rw [if_neg hm.2.1, if_neg hm.2.2.2.1, if_neg hm.1]
        simp [hS]
    · rename_i h1
      refine ⟨?_, tk_miss (by simp)⟩
      have hsl : s.data.toList.length = s.size := by rw [Array.length_toList]; rfl
      have hlen : s.data.toList.length < (escB [92, 91, 93] s.data.toList ++ 93 :: rest).length + 2 := by
        have : ∀ L : List UInt8, L.length ≤ (escB [92, 91, 93] L).length := fun L => by
          induction L with
          | nil => simp
          | cons c L ih => rw [escB, List.length_append, List.length_cons]; split <;> simp only [List.length_cons, List.length_nil] <;> omega
        have := this s.data.toList
        rw [List.length_append]; omega
      have h2 : (91 :: (escB [92, 91, 93] s.data.toList ++ [93]) ++ rest) = 91 :: (escB [92, 91, 93] s.data.toList ++ 93 :: rest) := by simp
      rw [h2]
      simp only [atomF, an_cons (show (91 : UInt8) ≠ 0 by decide)]
      rw [if_neg (by decide), if_pos trivial, setF_ok _ _ _ _ hlen (fun c hc => okB_ne (hok c hc))]
      simp only [List.nil_append, setX]
      rw [if_neg (by intro e; rw [e] at hsl; simp at hsl; omega)]
  rw [if_neg h3] at hno
  have hl0 : l = [] := List.eq_nil_of_length_eq_zero (by omega)
  subst hl0
  rcases ho with h1 | h1 | h1
  · subst h1
    rw [hse h3, txt, if_pos rfl] at *
    refine ⟨?_, tk_miss (by simp)⟩
    simp only [List.cons_append, List.nil_append, atomF, an_cons (show (91 : UInt8) ≠ 0 by decide)]
    rw [if_neg (by decide), if_pos trivial]
    rw [List.length_cons, setF, if_neg (by simp)]
    simp [setX, tk_hit (show (93 : UInt8) ≠ 0 by decide)]
  · subst h1
    rw [hse h3, txt, if_neg (by omega), if_pos rfl] at *
    refine ⟨?_, tk_miss (by simp)⟩
    simp only [List.cons_append, List.nil_append, atomF, an_cons (show (40 : UInt8) ≠ 0 by decide), tk_hit (show (41 : UInt8) ≠ 0 by decide)]
    simp
  · exact absurd h1 h3
theorem pc_ec (r : Rx) (h : r.wf) : PC r ∧ EC r := by
  induction r using Rx.ind with
  | h o s l ih =>
  obtain ⟨hno, hl⟩ := wf_sub.1 h
  have ih := fun x hx => ih x hx (hl x hx)
  have hdp := dep_mk o s l
  have hsubd : ∀ x ∈ l, x.dep + 1 ≤ (Rx.mk o s l).dep := fun x hx => by have := dep_mem hx; omega
  have hno2 := hno
  unfold nodeOk at hno
  have hse : o ≠ 3 → s = ByteArray.empty := fun h3 => by
    rw [if_neg h3] at hno; exact (bs_e s).2 hno.1
  -- parts that are no row
  have hPC : PC (.mk o s l) := by
    intro n rest hn hr h4 h5 h7
    have h4 : o ≠ 4 := h4
    have h5 : o ≠ 5 := h5
    have h7 : o ≠ 7 := h7
    obtain ⟨n, rfl⟩ : ∃ m, n = m + 1 := ⟨n - 1, by omega⟩
    have fin : ∀ {l0 : List UInt8}, tk 33 l0 false = (false, l0) → atomF (exF (pcF n)) l0 false = (.mk o s l, rest, false) → pcF (n + 1) l0 false = (.mk o s l, rest, false) := fun a b => by
      rw [pcF, if_neg (by simp), a, if_neg (by simp)]
      simp only
      rw [b]
      simp only
      rw [tk_miss hr]
      simp
    by_cases h3 : o = 3
    · obtain ⟨a, b⟩ := atom_plain h (.inr (.inr h3)) (exF (pcF n)) rest
      exact fin b a
    rw [if_neg h3] at hno
    rcases hno.2 with ⟨h1 | h1, h2⟩ | ⟨h1, _⟩ | ⟨h1 | h1, h2⟩
    · obtain ⟨a, b⟩ := atom_plain h (.inl h1) (exF (pcF n)) rest
      exact fin b a
    · obtain ⟨a, b⟩ := atom_plain h (.inr (.inl h1)) (exF (pcF n)) rest
      exact fin b a
    · omega
    · subst h1
      match l, h2 with
      | [x], _ =>
        obtain ⟨ipc, iec⟩ := ih x (by simp)
        have hxd := hsubd x (by simp)
        have hxw := hl x (by simp)
        rw [txt, if_neg (by omega), if_neg (by omega), if_neg (by omega), if_neg (by omega), if_neg (by omega), if_pos rfl, txs_map]
        simp only [List.map_cons, List.map_nil, List.headD_cons]
        have hat : atomF (exF (pcF n)) (sbx 6 x ++ (42 :: rest)) false = (x, 42 :: rest, false) ∧ tk 33 (sbx 6 x ++ (42 :: rest)) false = (false, sbx 6 x ++ (42 :: rest)) := by
          unfold sbx
          split
          · exact ⟨atom_wrapped hxw iec (by omega) _, tk_miss (by simp)⟩
          · rename_i hw
            have : ¬ (x.op = 5 ∨ x.op = 7 ∨ x.op = 4 ∨ x.op = 8 ∨ x.op = 6) := fun h => hw (by unfold wrp; rw [decide_eq_true_iff]; omega)
            have hop : x.op = 1 ∨ x.op = 2 ∨ x.op = 3 := by
              obtain ⟨o1, s1, l1⟩ := x
              have h9 := (wf_sub.1 hxw).1
              have this : ¬ (o1 = 5 ∨ o1 = 7 ∨ o1 = 4 ∨ o1 = 8 ∨ o1 = 6) := this
              show o1 = 1 ∨ o1 = 2 ∨ o1 = 3
              unfold nodeOk at h9
              split at h9 <;> omega
            exact atom_plain hxw hop _ _
        have h2 : (sbx 6 x ++ [42]) ++ rest = sbx 6 x ++ (42 :: rest) := by simp
        rw [h2, pcF, if_neg (by simp), hat.2, if_neg (by simp)]
        simp only
        rw [hat.1]
        simp only
        rw [tk_hit (by decide), if_pos rfl, hse h3]
    · subst h1
      match l, h2 with
      | [x], _ =>
        obtain ⟨ipc, iec⟩ := ih x (by simp)
        have hxd := hsubd x (by simp)
        have hxw := hl x (by simp)
        rw [txt, if_neg (by omega), if_neg (by omega), if_neg (by omega), if_neg (by omega), if_neg (by omega), if_neg (by omega), if_pos rfl, txs_map]
        simp only [List.map_cons, List.map_nil, List.headD_cons, List.cons_append]
        rw [pcF, if_neg (by simp), tk_hit (by decide), if_pos rfl]
        simp only
        rw [pc_sub hxw iec ipc (by omega) hr, hse h3]
  refine ⟨hPC, fun n rest hn hr => ?_⟩
  by_cases hj : o = 4 ∨ o = 5 ∨ o = 7
  · rw [if_neg (by omega)] at hno
    have h2 : 2 ≤ l.length := by omega
    match l, h2 with
    | x :: y :: L, _ =>
    have hP : ∀ z ∈ x :: y :: L, ∀ r2, rs42 r2 → pcF n (sbx o z ++ r2) false = (z, r2, false) := fun z hz r2 hr2 => by
      have := hsubd z hz
      exact pc_sub (hl z hz) (ih z hz).2 (ih z hz).1 (by omega) hr2
    have htx : txt (.mk o s (x :: y :: L)) = Lib.join (txs o (x :: y :: L)) (sepO o) := by
      rw [txt]
      unfold sepO
      rcases hj with rfl | rfl | rfl <;> simp
    obtain ⟨R, hR⟩ : ∃ R, R = (((y :: L).map (sbx o)).map (sepO o ++ ·)).flatten ++ rest := ⟨_, rfl⟩
    obtain ⟨c2, t2, ht2, g0, g41, g42, g124, g38⟩ := (txt_hd y (hl y (by simp))).2 o
    have hRh : rs42 R ∧ opF (nx R false) = o := by
      rw [hR]
      unfold rs42 sepO nx opF
      simp only [List.map_cons, List.flatten_cons]
      rw [ht2]
      rcases hj with rfl | rfl | rfl <;> simp [g42, g124, g38]
    have hall : txt (.mk o s (x :: y :: L)) ++ rest = sbx o x ++ R := by
      rw [htx, txs_map, List.map_cons, join_cons, hR]; simp
    have hp := hP x (by simp) R hRh.1
    have hlp := loop_ok (P := pcF n) hj hr (y :: L) (R.length + 2) [x] (by
      have : ∀ M : List Rx, (∀ z ∈ M, z.wf) → M.length ≤ ((M.map (sbx o)).map (sepO o ++ ·)).flatten.length := fun M => by
        induction M with
        | nil => simp
        | cons z M ihM =>
          intro hM
          have := ihM fun w hw => hM w (by simp [hw])
          obtain ⟨c, t, hc, _⟩ := (txt_hd z (hM z (by simp))).2 o
          simp only [List.map_cons, List.flatten_cons, List.length_append, List.length_cons]
          rw [hc, List.length_cons]; omega
      have := this (y :: L) fun z hz => hl z (by simp at hz ⊢; exact .inr hz)
      rw [hR, List.length_append]; omega) (fun z hz => hl z (by simp at hz ⊢; exact .inr hz)) (fun z hz => hP z (by simp at hz ⊢; exact .inr hz))
    rw [← hR] at hlp
    rw [hall]
    simp only [exF, hp, hRh.2, hlp]
    rw [if_neg (by simp), hse (by omega)]
    simp
  · have hp := hPC n rest hn (rsE_42 hr) (fun e => hj (.inl e)) (fun e => hj (.inr (.inl e))) (fun e => hj (.inr (.inr e)))
    simp only [exF, hp]
    rw [loopF, goes_no hr]
    simp
end Go.Ab
-- fnh
set_option maxHeartbeats 4000000
namespace Go.Ab
open Go Go.Ab Go.Proofs Go.Ab.Ty

/-! ### the reader walked -/
abbrev rdA (l : List UInt8) (f : Bool) : AV := .agg [str (bsL l), .bool f]
abbrev rdB (l : List UInt8) (f : Bool) : ABlk := ⟨94, 2, [.agg [str (bsL l), .bool f]]⟩
theorem Pu_rd (l : List UInt8) (f : Bool) : ∀ c ∈ (rdA l f).cells, Pu c := fun c hc => by
  simp only [AV.cells, List.mem_cons, List.not_mem_nil, or_false] at hc
  rcases hc with rfl | rfl <;> exact .base _
theorem PuB_rd (l : List UInt8) (f : Bool) : ∀ e ∈ (rdB l f).es, ∀ c ∈ e.cells, Pu c := fun e he c hc => by
  rw [List.mem_singleton] at he; subst he
  exact Pu_rd l f c hc
theorem bsL_cons0 (c : UInt8) (l : List UInt8) : (bsL (c :: l))[0]? = some c := by
  have h : 0 < (bsL (c :: l)).size := by rw [bsL_size]; simp
  rw [bs_get h]; rfl
theorem bsL_tail (c : UInt8) (l : List UInt8) : (bsL (c :: l)).extract 1 (bsL (c :: l)).size = bsL l := by
  simp [ByteArray.ext_iff, bsL_size]
theorem bsL_emp (l : List UInt8) : ((bsL l).toList == (⟨#[]⟩ : ByteArray).toList) = decide (l = []) := by
  rw [Bool.eq_iff_iff, beq_iff_eq, decide_eq_true_iff, bs_toList]
  constructor
  · intro h; have := congrArg (fun s : ByteArray => s.data.toList) h; simpa using this
  · rintro rfl; rfl
theorem next_ok (l : List UInt8) (f : Bool) : Fn Try.prog 108 [.iptr (rdA l f) 0] (chr (nx l f)) := by
  refine Fn.intro' [(0, .iptr (rdA l f) 0)] 1 19 Try.func108 (by kernel_rfl) rfl rfl rfl rfl rfl ?_
  refine goD ?_
  rw [bsL_emp]
  refine ifA (fun h => ?_) (fun h => ?_)
  · have hn : nx l f = 0 := by
      simp at h
      unfold nx
      rcases h with rfl | rfl
      · cases f <;> rfl
      · rfl
    rw [hn]
    refine goD ?_
    exact Ret.data rfl rfl (.base _)
  simp at h
  obtain ⟨hl, rfl⟩ := h
  match l, hl with
  | c :: l, _ =>
  refine goD ?_
  refine ARun.q1 rfl rfl (ql_index_str rfl rfl Try.underlying9 (by omega) (bsL_cons0 c l)) ?_
  refine goD ?_
  exact Ret.data rfl rfl (.base _)
theorem u8_eq (a b : UInt8) : ((a.toNat : Int) = b.toNat) ↔ a = b := ⟨fun h => UInt8.toNat_inj.1 (by omega), fun h => by rw [h]⟩
theorem ql_next {H : List ABlk} {ρ : Operand → AV} {cl : Call} {fx x : Operand} {b : Nat} {l : List UInt8} {f : Bool} (hc : cl.callee = .value fx) (hfx : ρ fx = .clo 108 []) (ha : cl.args.toList = [x]) (hx : ρ x = .ptr b 1 0 0) (hb : H[b]? = some (rdB l f)) : QL Try.prog H ρ (.call cl) (chr (nx l f)) :=
  ql_callM (args := [.iptr (rdA l f) 0]) hc hfx (by
    rw [ha]
    simp only [List.map, hx, List.append_nil]
    exact ⟨.iptr hb rfl rfl (show LendL _ [_, _] [_, _] from ⟨.pu (.base _), .pu (.base _), trivial⟩), trivial⟩) (.base _) (next_ok l f)
theorem take_ok (l : List UInt8) (f : Bool) (c : UInt8) (hc : c ≠ 0) : FnH Try.prog 109 [.ptr 0 1 0 0, chr c] [rdB l f] (.bool (tk c l f).1) [rdB (tk c l f).2 f] := by
  refine FnH.intro' [(0, .ptr 0 1 0 0), (1, chr c)] 2 21 1 Try.func109 (by kernel_rfl) rfl rfl rfl rfl rfl rfl ?_
  refine goD ?_
  refine ARun.q1 rfl rfl (ql_next (b := 0) rfl rfl rfl (by simp +decide only [go_sem] <;> rfl) (by rfl)) ?_
  refine goD ?_
  refine ifA (fun h => ?_) (fun h => ?_)
  · have h : nx l f ≠ c := by
      simp at h
      rcases h with h | h
      · exact fun e => h (by rw [e])
      · exact absurd (UInt8.toNat_inj.1 (by simpa using h)) hc
    have ht : tk c l f = (false, l) := by
      unfold tk
      rw [if_neg]
      rintro ⟨rfl, _, h2⟩
      apply h
      cases l with
      | nil => cases h2
      | cons x l => simp at h2; simp [nx, h2]
    rw [ht]
    refine goD ?_
    exact RetH.same rfl rfl rfl
  have h : nx l f = c := by
    simp at h
    exact UInt8.toNat_inj.1 (by omega)
  have hf : f = false := by
    cases f with
    | false => rfl
    | true => exact absurd h.symm (by simpa [nx] using hc)
  subst hf
  match l, h with
  | [], h => exact absurd h.symm (by simpa [nx] using hc)
  | x :: l, h =>
  have h : x = c := by simpa [nx] using h
  subst h
  rw [tk_hit hc]
  refine goD ?_
  refine ARun.q1 rfl rfl (ql_slice_str (l := 1) (h := (bsL (x :: l)).size) rfl Try.underlying9 rfl rfl (by rw [bsL_size]; simp) (Nat.le_refl _)) ?_
  rw [bsL_tail]
  refine goD ?_
  exact RetH.same rfl rfl rfl
theorem any_ok (l : List UInt8) (f : Bool) : FnH Try.prog 130 [.ptr 0 1 0 0] [rdB l f] (chr (an l f).1) [rdB (an l f).2.1 (an l f).2.2] := by
  refine FnH.intro' [(0, .ptr 0 1 0 0)] 1 20 1 Try.func130 (by kernel_rfl) rfl rfl rfl rfl rfl rfl ?_
  refine goD ?_
  refine ARun.q1 rfl rfl (ql_next (b := 0) rfl rfl rfl (by simp +decide only [go_sem] <;> rfl) (by rfl)) ?_
  refine goD ?_
  refine ifA (fun h => ?_) (fun h => ?_)
  · have h : nx l f = 0 := UInt8.toNat_inj.1 (by simpa using h)
    have ha : an l f = (0, l, true) := by unfold an; rw [if_pos h]
    rw [ha]
    refine goD ?_
    exact RetH.same rfl rfl rfl
  have h : nx l f ≠ 0 := fun e => by rw [e] at h; simp at h
  have hf : f = false := by
    cases f with
    | false => rfl
    | true => exact absurd rfl h
  subst hf
  match l, h with
  | [], h => exact absurd rfl h
  | x :: l, h =>
  have h : x ≠ 0 := by simpa [nx] using h
  rw [an_cons h, show nx (x :: l) false = x from rfl]
  refine goD ?_
  refine ARun.q1 rfl rfl (ql_slice_str (l := 1) (h := (bsL (x :: l)).size) rfl Try.underlying9 rfl rfl (by rw [bsL_size]; simp) (Nat.le_refl _)) ?_
  rw [bsL_tail]
  refine goD ?_
  exact RetH.same rfl rfl rfl
theorem tk_f {c : UInt8} {l : List UInt8} {f : Bool} (h : (tk c l f).1 = false) : (tk c l f).2 = l := by
  unfold tk at h ⊢
  split at h
  · cases h
  · rename_i h2; rw [if_neg h2]
theorem PuBl_rd (l : List UInt8) (f : Bool) : PuBl [rdB l f] := .cons (PuB_rd l f) .nil
abbrev ubl (a : List UInt8) : ABlk := ⟨5, 1, a.map chr⟩
theorem PuB_u (a : List UInt8) : ∀ e ∈ (ubl a).es, ∀ c ∈ e.cells, Pu c := fun e he c hc => by
  obtain ⟨x, _, rfl⟩ := List.mem_map.1 he
  simp only [AV.cells, List.mem_singleton] at hc; subst hc; exact .base _
abbrev zX : ABlk := ⟨24, 3, [.agg [.int 0, str ByteArray.empty, .base (.slice none 0 0)]]⟩
theorem sel1 (b : Nat) (h : b < 1) : ([0] : List Nat)[b]? = some b := by
  have : b = 0 := by omega
  subst this; rfl
theorem set_ok2 (l : List UInt8) (f : Bool) (hl : l.length ≤ 1000000) : FnH Try.prog 131 [.ptr 0 1 0 0] [rdB l f] (encX (setX (setF (l.length + 2) [] l f).1)) [rdB (setF (l.length + 2) [] l f).2.1 (setF (l.length + 2) [] l f).2.2] := by
  obtain ⟨R, hR⟩ : ∃ R, R = setF (l.length + 2) [] l f := ⟨_, rfl⟩
  rw [← hR]
  refine FnH.intro' [(0, .ptr 0 1 0 0)] 1 32 1 Try.func131 (by kernel_rfl) rfl rfl rfl rfl rfl rfl ?_
  refine goD ?_
  refine keA [0, 2, 3] ?_
  refine AWp.weaken (Wk.nil (E2 := [(0, .ptr 0 1 0 0), (2, .ptr 1 1 0 0), (3, .own 2 0 0 0)]) 5 1 (by simp [lk, Le.refl])) ?_
  refine AWp.loopH (J := fun y : Nat × List UInt8 × List UInt8 × Bool => setF y.1 y.2.1 y.2.2.1 y.2.2.2 = R ∧ muS y.2.2.1 y.2.2.2 < y.1 ∧ y.2.1.length + y.1 ≤ l.length + 2) (fun y => [(3, .own 2 y.2.1.length 0 y.2.1.length)]) (fun y => [rdB y.2.2.1 y.2.2.2, zX, ubl y.2.1]) (fun y => y.1) (l.length + 2, [], l, f) ⟨hR.symm, by unfold muS; split <;> simp, by simp⟩ .wk ?_
  rintro ⟨n, a, l1, f1⟩ ⟨h1, h2, h3⟩
  simp only at h1 h2 h3 ⊢
  obtain ⟨n, rfl⟩ : ∃ m, n = m + 1 := ⟨n - 1, by omega⟩
  rw [setF] at h1
  cases f1 with
  | true =>
    rw [if_pos rfl] at h1
    subst h1
    simp only
    refine goD ?_
    refine gxA (.bool true) ?_
    refine goD ?_
    refine iff_ ?_
    refine goC ?_
    rcases a with _ | ⟨c0, a⟩
    · refine goC ?_
      refine ift_ ?_
      refine goC ?_
      refine bldA pl24 zero24 ?_
      refine goC ?_
      exact RetH.of (vs := [.agg [.int 1, str ByteArray.empty, .base (.slice none 0 0)]]) [0] (by kernel_rfl) (by decide) (fun b hb => sel1 b hb) ⟨⟨_, rfl, .pu (PuB_rd _ _)⟩, trivial⟩ (PubR.agg' (show PubRL _ _ [_, _, _] [_, _, _] from ⟨.pu (.base _), .pu (.base _), .nilS, trivial⟩))
    · have hal : (c0 :: a).length = a.length + 1 := rfl
      refine goC ?_
      refine iffd_ rfl (by omega) ?_
      refine goC ?_
      refine ARun.q1 rfl rfl (ql_bytesStr (b := 2) (l := c0 :: a) (by simp +decide only [go_sem] <;> rfl) (by rfl) rfl Try.underlying32 Try.underlying5 Try.underlying9) ?_
      refine bldA pl24 zero24 ?_
      refine goC ?_
      exact RetH.of (vs := [.agg [.int 3, str (bsL (c0 :: a)), .base (.slice none 0 0)]]) [0] (by kernel_rfl) (by decide) (fun b hb => sel1 b hb) ⟨⟨_, rfl, .pu (PuB_rd _ _)⟩, trivial⟩ (PubR.agg' (show PubRL _ _ [_, _, _] [_, _, _] from ⟨.pu (.base _), .pu (.base _), .nilS, trivial⟩))
  | false =>
    rw [if_neg (by simp)] at h1
    have i1 := take_ok l1 false 93 (by decide)
    have htf := tk_f (c := 93) (l := l1) (f := false)
    refine goD ?_
    refine ARun.gp (b := true) rfl rfl (by simp +decide only [go_sem] <;> rfl) rfl (pl_callH (e := [0]) (d' := .bool (tk 93 l1 false).1) i1 (CallE.put1 (b := 0) rfl (PuBl_rd _ _) (PuBl_rd _ _)) rfl (by simp +decide only [go_sem] <;> rfl) (by simp +decide only [go_sem, List.map]; exact ⟨.ptr rfl, .pu (.base _), trivial⟩) (.pu (.base _))) ?_
    refine goD ?_
    cases hb : (tk 93 l1 false).1 with
    | true =>
      rw [if_pos hb] at h1
      subst h1
      simp only
      refine iff_ ?_
      refine goC ?_
      rcases a with _ | ⟨c0, a⟩
      · refine goC ?_
        refine ift_ ?_
        refine goC ?_
        refine bldA pl24 zero24 ?_
        refine goC ?_
        exact RetH.of (vs := [.agg [.int 1, str ByteArray.empty, .base (.slice none 0 0)]]) [0] (by kernel_rfl) (by decide) (fun b hb => sel1 b hb) ⟨⟨_, rfl, .pu (PuB_rd _ _)⟩, trivial⟩ (PubR.agg' (show PubRL _ _ [_, _, _] [_, _, _] from ⟨.pu (.base _), .pu (.base _), .nilS, trivial⟩))
      · have hal : (c0 :: a).length = a.length + 1 := rfl
        refine goC ?_
        refine iffd_ rfl (by omega) ?_
        refine goC ?_
        refine ARun.q1 rfl rfl (ql_bytesStr (b := 2) (l := c0 :: a) (by simp +decide only [go_sem] <;> rfl) (by rfl) rfl Try.underlying32 Try.underlying5 Try.underlying9) ?_
        refine bldA pl24 zero24 ?_
        refine goC ?_
        exact RetH.of (vs := [.agg [.int 3, str (bsL (c0 :: a)), .base (.slice none 0 0)]]) [0] (by kernel_rfl) (by decide) (fun b hb => sel1 b hb) ⟨⟨_, rfl, .pu (PuB_rd _ _)⟩, trivial⟩ (PubR.agg' (show PubRL _ _ [_, _, _] [_, _, _] from ⟨.pu (.base _), .pu (.base _), .nilS, trivial⟩))
    | false =>
      rw [if_neg (by rw [hb]; simp)] at h1
      rw [htf hb]
      refine ift_ ?_
      have hmu := setC_mu l1
      have i2 := any_ok l1 false
      have i3 := any_ok (an l1 false).2.1 (an l1 false).2.2
      have hSC : setC l1 false = if (an l1 false).1 = 92 then an (an l1 false).2.1 (an l1 false).2.2 else an l1 false := rfl
      generalize setC l1 false = S at *
      refine goD ?_
      refine ARun.p1 rfl rfl (pl_callH (e := [0]) (d' := chr (an l1 false).1) i2 (CallE.put1 (b := 0) rfl (PuBl_rd _ _) (PuBl_rd _ _)) rfl (by simp +decide only [go_sem] <;> rfl) (by simp +decide only [go_sem, List.map]; exact ⟨.ptr rfl, trivial⟩) (.pu (.base _))) ?_
      generalize an l1 false = A at *
      obtain ⟨c1, l2, f2⟩ := A
      simp only at i3 hSC ⊢
      refine goD ?_
      refine keA [0, 2, 3, 4, 18] ?_
      refine AWp.joinH [(4, chr S.1), (18, .bad)] [rdB S.2.1 S.2.2, zX, ubl a] ?_ ?_
      · refine ifA (fun hc => ?_) (fun hc => ?_)
        · have hc : c1 = 92 := UInt8.toNat_inj.1 (by show c1.toNat = 92; simp at hc; omega)
          rw [if_pos hc] at hSC
          rw [hSC]
          refine goD ?_
          refine ARun.p1 rfl rfl (pl_callH (e := [0]) (d' := chr (an l2 f2).1) i3 (CallE.put1 (b := 0) rfl (PuBl_rd _ _) (PuBl_rd _ _)) rfl (by simp +decide only [go_sem] <;> rfl) (by simp +decide only [go_sem, List.map]; exact ⟨.ptr rfl, trivial⟩) (.pu (.base _))) ?_
          refine goD ?_
          exact .wk
        · have hc : c1 ≠ 92 := fun e => by rw [e] at hc; simp at hc
          rw [if_neg hc] at hSC
          rw [hSC]
          refine goD ?_
          exact .wk
      obtain ⟨c3, l3, f3⟩ := S
      simp only at h1 hmu ⊢
      refine goC ?_
      refine bslA Try.underlying32 sz5 ?_
      refine ARun.p1 rfl rfl (pl_append (b := 2) (tot := a.length) (es := [chr c3]) (by simp +decide only [go_sem] <;> rfl) (by simp +decide only [go_sem] <;> rfl) rfl (by simp) Try.underlying32 el5 rfl rfl (by simp) (fun e he => by rw [List.mem_singleton] at he; subst he; exact ⟨rfl, rfl⟩) (by simp; omega) (by simp; omega)) ?_
      refine goC ?_
      refine ⟨(n, a ++ [c3], l3, f3), ⟨h1, by simp only; omega, by simp only [List.length_append, List.length_cons, List.length_nil]; omega⟩, by simp only; omega, ?_⟩
      exact Wk.trimM 3 (by decide) (by simp [ubl]) (by simp +decide only [go_sem, WkP, List.length_append, List.length_cons, List.length_nil]; (repeat' apply And.intro) <;> first | exact .ptr (by decide) | exact .own (by decide) | exact .pu (.base _)) (pubB (PuBl.cons (PuB_rd _ _) (PuBl.cons (PuB_zX 0 _) (PuBl.cons (PuB_u (a ++ [c3])) .nil))))
end Go.Ab
