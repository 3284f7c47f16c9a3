/- Part of the proof. -/
import Derived.Test.YtjfahhbobiiphaaYD
import Derived.Test.YtjfahhbobiiphaaYF
import Derived.Test.YtjfahhbobiiphaaYC
set_option linter.unusedSimpArgs false
set_option linter.unusedVariables false
set_option maxHeartbeats 4000000
namespace Go.Ab
open Go Go.Ab Go.Proofs Go.Ab.Ty

/-! ### the document's Parse -/
theorem unit_ok : ∀ n, UnitC n
  | 0 => fun _ _ _ _ h => absurd h (by omega)
  | n + 1 => unit_of n (unit_ok n) (join_of n (unit_ok n))
abbrev parG (l : List UInt8) : Rx × Option (List UInt8) := joinG (unitG (l.length + 1)) l
theorem parG_txt (r : Rx) (hv : r.valid) : parG (txt r) = (r, some []) := by
  have h := (ug_jg r hv.2).2 ((txt r).length + 1) [] (by rw [List.append_nil]; omega) (.inl rfl)
  rwa [List.append_nil] at h
open Classical in
theorem refparse_ok (l : List UInt8) (hl : l.length ≤ 1000) (hk : (parG l).2 = some [] → (parG l).1.ok) : Fn Try.prog 42 [str (bsL l)] (.tup [encX (parR l), .int (parE l)]) := by
  have i1 := join_of (l.length + 1) (unit_ok _) l 0 (by omega) (by omega) (by simp)
  rw [List.drop_zero] at i1
  have hsz := bsL_size l
  have hsx := joinG_sfx (unitG_sfx (l.length + 1)) l
  have hT : (parG l).2 = some [] → (parG l).1.valid → txt (parG l).1 = l → parR l = (parG l).1 ∧ parE l = 0 := fun a b c => by
    have h := par_txt _ b
    rw [c] at h
    have h1 : parOk l := by unfold parOk; rw [h]; exact ⟨rfl, rfl, b, c⟩
    exact ⟨by rw [show parR l = (par l).1 from if_pos h1, h], if_pos h1⟩
  have hF : ¬ ((parG l).2 = some [] ∧ (parG l).1.valid ∧ txt (parG l).1 = l) → parR l = rx0 ∧ parE l = 4 := fun a => by
    have h1 : ¬ parOk l := fun h1 => a (by
      obtain ⟨_, _, b, c⟩ := h1
      have h := parG_txt _ b
      rw [c] at h
      rw [h]; exact ⟨rfl, b, c⟩)
    exact ⟨if_neg h1, if_neg h1⟩
  have i2 := refValid_ok (parG l).1
  have i3 := fun h : (parG l).1.valid => spelled_ok (parG l).1 h.2 (by have := h.1.1; omega)
  generalize parR l = R at *
  generalize parE l = e at *
  unfold parG at *
  generalize joinG (unitG (l.length + 1)) l = P at *
  obtain ⟨⟨o, s, L⟩, j⟩ := P
  simp only at i1 i2 i3 hT hF hk hsx
  rw [encX_mk] at i1 i2 i3
  refine Fn.intro' [(0, str (bsL l))] 1 32 Try.func42 (by kernel_rfl) rfl rfl rfl rfl rfl ?_
  generalize hB : bsL l = B at *
  refine goB ?_
  refine iffd_ rfl (by omega) ?_
  refine goB ?_
  refine callA (i1) ?_
  refine goB ?_
  by_cases hj : j = some []
  · subst hj
    rw [show (ixr l (some []) != (B.size : Int)) = false by simp [ixr, hsz]]
    have i2 := i2 (hk rfl)
    refine gcallA (i := fun hg => i2) (hr := ?_)
    by_cases hv : (Rx.mk o s L).valid
    · have i3 := i3 hv
      rw [decide_eq_true hv]
      refine goB ?_
      refine gcallA (i := fun hg => i3) (hr := ?_)
      refine goB ?_
      refine ifA (fun hq => ?_) (fun hq => ?_)
      · have hq : ¬ txt (.mk o s L) = l := fun h => by rw [h, hB] at hq; simp at hq
        refine goB ?_
        obtain ⟨r1, e1⟩ := hF (fun h => hq h.2.2)
        rw [r1, e1, encX_rx0]
        refine goB ?_
        refine bldA pl24 zero24 ?_
        refine goB ?_
        exact ⟨[.agg [.int 0, str ByteArray.empty, .base (.slice none 0 0)], .int 4], by kernel_rfl, Pub.tup' ⟨Pub.agg' (show PubL _ 0 [_, _, _] [_, _, _] from ⟨.pu (.base _), .pu (.base _), .nilS, trivial⟩), .pu (.base _), trivial⟩⟩
      have hq : txt (.mk o s L) = l := by
        rw [← hB] at hq
        simpa [bsL_beq] using hq
      obtain ⟨r1, e1⟩ := hT rfl hv hq
      rw [r1, e1, encX_mk]
      refine goB ?_
      exact ⟨[.agg [.int o, str s, .lst (L.map encX)], .int 0], by kernel_rfl, .pu (Pu_tup2 (Pu_aggX _ _ _) (.base _))⟩
    rw [decide_eq_false hv]
    refine goB ?_
    refine gxA (str B) ?_
    refine goB ?_
    refine ift_ ?_
    obtain ⟨r1, e1⟩ := hF (fun h => hv h.2.1)
    rw [r1, e1, encX_rx0]
    refine goB ?_
    refine bldA pl24 zero24 ?_
    refine goB ?_
    exact ⟨[.agg [.int 0, str ByteArray.empty, .base (.slice none 0 0)], .int 4], by kernel_rfl, Pub.tup' ⟨Pub.agg' (show PubL _ 0 [_, _, _] [_, _, _] from ⟨.pu (.base _), .pu (.base _), .nilS, trivial⟩), .pu (.base _), trivial⟩⟩
  have hne : (ixr l j != (B.size : Int)) = true := by
    rw [bne_iff_ne]
    rcases j with _ | t
    · simp only [ixr]; omega
    · have := (hsx t rfl).length_le
      have : t.length ≠ 0 := fun h => hj (by rw [List.eq_nil_of_length_eq_zero h])
      simp only [ixr]; omega
  rw [hne]
  refine gxA (.bool true) ?_
  refine goB ?_
  refine gxA (str B) ?_
  refine goB ?_
  refine ift_ ?_
  obtain ⟨r1, e1⟩ := hF (fun h => hj h.1)
  rw [r1, e1, encX_rx0]
  refine goB ?_
  refine bldA pl24 zero24 ?_
  refine goB ?_
  exact ⟨[.agg [.int 0, str ByteArray.empty, .base (.slice none 0 0)], .int 4], by kernel_rfl, Pub.tup' ⟨Pub.agg' (show PubL _ 0 [_, _, _] [_, _, _] from ⟨.pu (.base _), .pu (.base _), .nilS, trivial⟩), .pu (.base _), trivial⟩⟩
end Go.Ab
set_option maxHeartbeats 4000000
namespace Go.Ab
open Go Go.Ab Go.Proofs Go.Ab.Ty

/-! ### the document's trees are ok -/
theorem ok_rx0 : rx0.ok := .mk _ _ _ (by decide) (by decide) (by simp)
theorem ok_setX (a : List UInt8) (h : a.length ≤ maxLen) : (setX a).ok := by
  unfold setX
  split
  · exact .mk _ _ _ (by decide) (by decide) (by simp)
  · exact .mk _ _ _ (by rw [bsL_size]; exact h) (by simp) (by simp)
theorem setG_okT : ∀ (n : Nat) (a l : List UInt8), l.length ≤ n → a.length + l.length ≤ maxLen → (setG a l).1.ok
  | n, a, [], _, _ => by simp only [setG]; exact ok_rx0
  | 0, a, c :: t, hn, h => by simp at hn
  | n + 1, a, c :: t, hn, h => by
    simp only [List.length_cons] at hn h
    unfold setG
    split
    · exact ok_setX _ (by omega)
    split
    · match t, hn, h with
      | [], _, _ => exact ok_rx0
      | d :: t2, hn, h =>
        simp only [List.length_cons] at hn h
        exact setG_okT n _ t2 (by omega) (by simp only [List.length_append, List.length_cons, List.length_nil]; omega)
    · exact setG_okT n _ t (by omega) (by simp only [List.length_append, List.length_cons, List.length_nil]; omega)
theorem atomG_okT {E : RF} {N : Nat} (hE : ∀ l, l.length < N → (E l).1.ok) (l : List UInt8) (hl : l.length ≤ N) (hN : N ≤ maxLen) : (atomG E l).1.ok := by
  match l with
  | [] => exact ok_rx0
  | c :: t =>
  simp only [List.length_cons] at hl
  have one : ∀ d : UInt8, (Rx.mk 3 (bsL [d]) []).ok := fun d => .mk _ _ _ (by rw [bsL_size]; simp; decide) (by simp) (by simp)
  rw [atomG_cons]
  split
  · exact setG_okT _ _ _ (Nat.le_refl _) (by simp only [List.length_nil]; omega)
  split
  · split
    · exact .mk _ _ _ (by decide) (by decide) (by simp)
    · split
      · exact ok_rx0
      · split
        · exact hE _ (by omega)
        · exact ok_rx0
  split
  · match t with
    | [] => exact ok_rx0
    | d :: t2 => exact one d
  split
  · exact ok_rx0
  · exact one c
theorem loopG_okT {P : RF} {N : Nat} (hS : Sfx P) (hP : ∀ l, l.length ≤ N → (P l).1.ok) (op : Int) : ∀ (n : Nat) (a : List Rx) (l : List UInt8), l.length ≤ N → a.length + l.length ≤ maxLen → (∀ x ∈ a, x.ok) → (loopG P op n a l).1.ok
  | 0, a, l, _, _, _ => by simp only [loopG]; exact ok_rx0
  | n + 1, a, l, hl, hm, ha => by
    rw [loopG]
    split
    · exact .mk _ _ _ (by decide) (by omega) ha
    split
    · exact ok_rx0
    · have hd : (if op = 4 then l else l.tail).length ≤ l.length := by
        split
        · omega
        · exact (tail_sfx l).length_le
      have h1 := hP _ (Nat.le_trans hd hl)
      have h2 := hS.ends (if op = 4 then l else l.tail)
      split
      · exact ok_rx0
      · rename_i l2 he
        have h3 := (h2 l2 he).2
        refine loopG_okT hS hP op n _ l2 (by omega) (by simp only [List.length_append, List.length_cons, List.length_nil]; omega) fun x hx => ?_
        rcases List.mem_append.1 hx with hx | hx
        · exact ha x hx
        · rw [List.mem_singleton] at hx; rw [hx]; exact h1
theorem joinG_okT {P : RF} {N : Nat} (hS : Sfx P) (hP : ∀ l, l.length ≤ N → (P l).1.ok) (hN : N + 1 ≤ maxLen) (l : List UInt8) (hl : l.length ≤ N) : (joinG P l).1.ok := by
  have h1 := hP l hl
  have h2 := hS.ends l
  unfold joinG
  split
  · exact h1
  · rename_i l1 he
    have h3 := (h2 l1 he).2
    split
    · exact h1
    · exact loopG_okT hS hP _ _ _ l1 (by omega) (by simp only [List.length_cons, List.length_nil]; omega) fun x hx => by
        rw [List.mem_singleton] at hx; rw [hx]; exact h1
theorem unitG_okT : ∀ (n : Nat) (l : List UInt8), l.length < n → n + 1 ≤ maxLen → (unitG n l).1.ok
  | 0, l, h, _ => by omega
  | n + 1, l, h, hm => by
    have ih := fun l (h : l.length < n) => unitG_okT n l h (by omega)
    have hA : (atomG (joinG (unitG n)) l).1.ok := atomG_okT (N := n) (fun l h => joinG_okT (N := n - 1) (unitG_sfx n) (fun l h2 => ih l (by omega)) (by omega) l (by omega)) l (by omega) (by omega)
    have one : ∀ (o : Int) (x : Rx), x.ok → (Rx.mk o ByteArray.empty [x]).ok := fun o x hx => .mk _ _ _ (by decide) (show 1 ≤ maxLen by decide) fun y hy => by
      rw [List.mem_singleton] at hy; rw [hy]; exact hx
    rw [unitG]
    split
    · rename_i h33
      have : l.tail.length < n := by
        cases l with
        | nil => simp at h33
        | cons c t => simp only [List.length_cons] at h; simp only [List.tail_cons]; omega
      exact one _ _ (ih _ this)
    · split
      · exact hA
      · split
        · exact one _ _ hA
        · exact hA
end Go.Ab
set_option maxHeartbeats 4000000
namespace Go.Ab
open Go Go.Ab Go.Proofs Go.Ab.Ty

/-! ### the reader's trees are ok and small -/
def Okc (N : Nat) (P : PF) : Prop := ∀ l f, l.length ≤ N → (P l f).2.2 = false → (P l f).1.ok ∧ (P l f).1.cnt + 1 + 4 * (P l f).2.1.length ≤ 4 * l.length
theorem cnts_one (x : Rx) : cnts [x] = x.cnt := by simp [cnts]
theorem cnts_snoc : ∀ (a : List Rx) (x : Rx), cnts (a ++ [x]) = cnts a + x.cnt
  | [], x => by simp [cnts]
  | y :: a, x => by simp only [List.cons_append, cnts, cnts_snoc a x]; omega
theorem good_f {P : PF} (hG : Good P) {l : List UInt8} {f : Bool} (h : (P l f).2.2 = false) : f = false := by
  cases f with
  | false => rfl
  | true => rw [hG.fail] at h; cases h
theorem loopF_okc {P : PF} {N : Nat} (hG : Good P) (hP : Okc N P) (op : Int) : ∀ n a l f, l.length ≤ N → (∀ x ∈ a, x.ok) → (loopF P op n a l f).2.2 = false → (∀ x ∈ (loopF P op n a l f).1, x.ok) ∧ cnts (loopF P op n a l f).1 + (loopF P op n a l f).1.length + 4 * (loopF P op n a l f).2.1.length ≤ cnts a + a.length + 4 * l.length ∧ a.length ≤ (loopF P op n a l f).1.length
  | 0, a, l, f, hl, ha, h => by simp only [loopF] at h ⊢; exact ⟨ha, by omega, by omega⟩
  | n + 1, a, l, f, hl, ha, h => by
    rw [loopF] at h ⊢
    split
    · rename_i hg
      rw [if_pos hg] at h
      have hb := badF_len op l f
      have hmid : (P (badF op l f).2 (f || (badF op l f).1)).2.2 = false := by
        cases hm : (P (badF op l f).2 (f || (badF op l f).1)).2.2 with
        | false => rfl
        | true =>
          rw [hm] at h
          have := (loopF_len hG op n (a ++ [(P (badF op l f).2 (f || (badF op l f).1)).1]) (P (badF op l f).2 (f || (badF op l f).1)).2.1 true).2 rfl
          rw [this] at h; cases h
      have h1 := hP _ _ (by omega) hmid
      have h2 := loopF_okc hG hP op n (a ++ [(P (badF op l f).2 (f || (badF op l f).1)).1]) _ _ (by omega) (fun x hx => by
        rcases List.mem_append.1 hx with hx | hx
        · exact ha x hx
        · rw [List.mem_singleton] at hx; rw [hx]; exact h1.1) h
      rw [cnts_snoc] at h2
      simp only [List.length_append, List.length_cons, List.length_nil] at h2
      exact ⟨h2.1, by omega, by omega⟩
    · exact ⟨ha, by simp only; omega, by simp only; omega⟩
theorem exF_okc {P : PF} {N : Nat} (hG : Good P) (hP : Okc N P) (hN : 4 * N + 4 ≤ maxLen) : Okc N (exF P) := by
  intro l f hl h
  simp only [exF] at h ⊢
  have hmid : (P l f).2.2 = false := by
    cases hm : (P l f).2.2 with
    | false => rfl
    | true =>
      rw [hm] at h
      rw [(loopF_len hG _ _ _ _ true).2 rfl] at h; cases h
  have h1 := hP l f hl hmid
  have h2 := loopF_okc hG hP (opF (nx (P l f).2.1 (P l f).2.2)) ((P l f).2.1.length + 2) [(P l f).1] (P l f).2.1 (P l f).2.2 (by omega) (fun x hx => by rw [List.mem_singleton] at hx; rw [hx]; exact h1.1) h
  have h4 := (loopF_len hG (opF (nx (P l f).2.1 (P l f).2.2)) ((P l f).2.1.length + 2) [(P l f).1] (P l f).2.1 (P l f).2.2).1
  rw [cnts_one] at h2
  simp only [List.length_cons, List.length_nil] at h2
  generalize loopF P (opF (nx (P l f).2.1 (P l f).2.2)) ((P l f).2.1.length + 2) [(P l f).1] (P l f).2.1 (P l f).2.2 = q at *
  split
  · rename_i hq
    exact ⟨h1.1, by omega⟩
  · refine ⟨.mk _ _ _ (by decide) (by omega) h2.1, ?_⟩
    rw [cnt_mk]
    omega
theorem setF_lenA : ∀ n a l f, (setF n a l f).2.2 = false → (setF n a l f).1.length + (setF n a l f).2.1.length ≤ a.length + l.length
  | 0, a, l, f, h => by simp only [setF]; omega
  | n + 1, a, l, f, h => by
    rw [setF] at h ⊢
    split
    · simp only; omega
    rename_i hf
    rw [if_neg hf] at h
    split
    · rename_i h2
      have := (tk_len 93 l f).1
      simp only; omega
    · rename_i h2
      rw [if_neg h2] at h
      have h1 := setF_lenA n (a ++ [(setC l f).1]) (setC l f).2.1 (setC l f).2.2 h
      have h3 := setC_len l f
      have h4 : (setC l f).2.2 = false := by
        cases h5 : (setC l f).2.2 with
        | false => rfl
        | true =>
          rw [h5] at h
          have := (setF_len n (a ++ [(setC l f).1]) (setC l f).2.1 true).2 rfl
          rw [this] at h; cases h
      have := (h3.2 h4).2
      simp only [List.length_append, List.length_cons, List.length_nil] at h1
      omega
theorem cnt_leaf (o : Int) (s : ByteArray) : (Rx.mk o s []).cnt = 1 := by rw [cnt_mk]; rfl
theorem ok_one (c : UInt8) : (Rx.mk 3 (bsL [c]) []).ok := .mk _ _ _ (by rw [bsL_size]; simp; decide) (by simp) (by simp)
theorem setX_cnt (a : List UInt8) : (setX a).cnt = 1 := by
  unfold setX
  split
  · exact cnt_leaf _ _
  · exact cnt_leaf _ _
theorem atomF_okc {E : PF} {N : Nat} (hG : Good E) (hE : Okc N E) (hN : 4 * N + 8 ≤ maxLen) : Okc (N + 1) (atomF E) := by
  intro l f hl h
  have h1 := an_len l f
  simp only [atomF] at h ⊢
  split at h
  · rename_i hc
    rw [if_pos hc]
    split at h
    · rename_i h2
      rw [if_pos h2]
      have h3 := (tk_len 41 (an l f).2.1 (an l f).2.2).2 h2
      have h4 := h1.2 h
      refine ⟨wf_ok _ rxE_wf, ?_⟩
      rw [show rxE.cnt = 1 from cnt_leaf _ _]
      simp only
      omega
    · rename_i h2
      rw [if_neg h2]
      simp only [Bool.or_eq_false_iff] at h
      have h5 : (an l f).2.2 = false := good_f hG h.1
      have h4 := h1.2 h5
      have h6 := hE _ _ (by omega) h.1
      have h7 := (tk_len 41 (E (an l f).2.1 (an l f).2.2).2.1 (E (an l f).2.1 (an l f).2.2).2.2).1
      refine ⟨h6.1, ?_⟩
      simp only [h.1, Bool.false_eq_true, if_false]
      rw [h.1] at h7
      omega
  rename_i hc
  rw [if_neg hc]
  split at h
  · rename_i h2
    rw [if_pos h2]
    have h3 := setF_len ((an l f).2.1.length + 2) [] (an l f).2.1 (an l f).2.2
    have h5 : (an l f).2.2 = false := by
      cases h6 : (an l f).2.2 with
      | true => have := h3.2 h6; rw [h6] at this h; simp only at h; rw [this] at h; cases h
      | false => rfl
    have h4 := h1.2 h5
    have h6 := setF_lenA _ _ _ _ h
    simp only [List.length_nil] at h6
    refine ⟨ok_setX _ (by omega), ?_⟩
    simp only [setX_cnt]
    omega
  rename_i h2
  rw [if_neg h2]
  split at h
  · rename_i h3
    rw [if_pos h3]
    have h4 := an_len (an l f).2.1 (an l f).2.2
    have h5 := h4.2 h
    have h6 := h1.2 h5.1
    refine ⟨ok_one _, ?_⟩
    simp only [cnt_leaf]
    omega
  · rename_i h3
    rw [if_neg h3]
    have h6 := h1.2 h
    refine ⟨ok_one _, ?_⟩
    simp only [cnt_leaf]
    omega
theorem pcF_okc (N : Nat) (hN : 4 * N + 8 ≤ maxLen) : ∀ n, Okc N (pcF n)
  | 0 => fun l f hl h => by simp [pcF] at h
  | n + 1 => fun l f hl h => by
    have ih := pcF_okc N hN n
    have hA := atomF_okc (pcF_good n).ex (exF_okc (pcF_good n) ih (by omega)) (by omega)
    have one : ∀ (o : Int) (x : Rx), x.ok → (Rx.mk o ByteArray.empty [x]).ok := fun o x hx => .mk _ _ _ (by decide) (show 1 ≤ maxLen by decide) fun y hy => by
      rw [List.mem_singleton] at hy; rw [hy]; exact hx
    rw [pcF] at h ⊢
    split
    · rename_i hf
      rw [if_pos hf] at h
      simp only at h; rw [h] at hf; cases hf
    rename_i hf
    rw [if_neg hf] at h
    split
    · rename_i h2
      rw [if_pos h2] at h
      have h3 := (tk_len 33 l f).2 h2
      have h4 := ih _ _ (by omega) h
      refine ⟨one _ _ h4.1, ?_⟩
      simp only [cnt_mk, cnts_one]
      omega
    · rename_i h2
      rw [if_neg h2] at h
      have h3 := tk_len 42 (atomF (exF (pcF n)) l f).2.1 (atomF (exF (pcF n)) l f).2.2
      simp only at h ⊢
      split at h
      · rename_i h5
        rw [if_pos h5]
        have h6 := hA l f (by omega) h
        have h7 := h3.2 h5
        refine ⟨one _ _ h6.1, ?_⟩
        simp only [cnt_mk, cnts_one]
        omega
      · rename_i h5
        rw [if_neg h5]
        exact hA l f (by omega) h
theorem par_okc (l : List UInt8) (hl : l.length ≤ 1000000) (h : (par l).2.2 = false) : (par l).1.ok ∧ (par l).1.cnt ≤ 1000000000 := by
  have h1 := exF_okc (pcF_good 121) (pcF_okc l.length (by unfold maxLen; omega) 121) (by unfold maxLen; omega) l false (Nat.le_refl _) h
  exact ⟨h1.1, by show (exF (pcF 121) l false).1.cnt ≤ 1000000000; omega⟩
theorem parG_ok (l : List UInt8) (hl : l.length ≤ 1000000) : (parG l).1.ok :=
  joinG_okT (unitG_sfx _) (fun l2 h2 => unitG_okT (l.length + 1) l2 (by omega) (by unfold maxLen; omega)) (by unfold maxLen; omega) l (Nat.le_refl _)
end Go.Ab
set_option maxHeartbeats 4000000
namespace Go.Ab
open Go Go.Ab Go.Proofs Go.Ab.Ty

/-! ### the law of parsing -/
theorem law_parses (s : ByteArray) : Fn Try.prog 9 [str s] (.bool true) := by
  by_cases hl : s.size ≤ 600
  · generalize hL : s.data.toList = l
    have hs : s = bsL l := by rw [← hL, bsL_toList]
    have hll : l.length ≤ 600 := by rw [hs, bsL_size] at hl; exact hl
    have i1 := parse_gen l (by omega) fun a b => par_okc l (by omega) a
    have i2 := refparse_ok l (by omega) fun _ => parG_ok l (by omega)
    have hT : parOk l → parE l = 0 ∧ parR l = (par l).1 := fun h => ⟨if_pos h, if_pos h⟩
    have hF : ¬ parOk l → parE l = 4 ∧ parR l = rx0 := fun h => ⟨if_neg h, if_neg h⟩
    have hok : (parR l).ok := by
      by_cases h : parOk l
      · rw [(hT h).2]; exact wf_ok _ h.2.2.1.2
      · rw [(hF h).2]; exact ok_rx0
    have i3 := refEq_ok (parR l) (parR l) hok
    have i4 := fun h : parOk l => format_ok (parR l) hok (by rw [(hT h).2]; have := h.2.2.1.1.1; omega)
    have i5 : parOk l → fmtA (parR l) = .tup [str s, .int 0] := fun h => by
      rw [(hT h).2, hs, show fmtA (par l).1 = .tup [str (bsL (txt (par l).1)), .int 0] from if_pos h.2.2.1, h.2.2.2]
    have j0 := awake_true
    rw [← hs] at i1 i2
    generalize parR l = R at *
    obtain ⟨o, S, L⟩ := R
    rw [encX_mk] at i1 i2 i3 i4
    by_cases h : parOk l
    · rw [(hT h).1] at i1 i2
      have i4 := i4 h
      rw [i5 h] at i4
      refine Fn.intro' [(0, str s)] 1 49 Try.func9 (by kernel_rfl) rfl rfl rfl rfl rfl ?_
      refine goB ?_
      refine iffd_ rfl (by omega) ?_
      refine goB ?_
      refine callA (i1) ?_
      refine goB ?_
      refine callA (i2) ?_
      refine goB ?_
      refine gcallA (i := fun hg => i3) (hr := ?_)
      refine goB ?_
      refine iff_ ?_
      refine goB ?_
      refine iff_ ?_
      refine goB ?_
      refine callA (i4) ?_
      refine goB ?_
      refine gcallA (i := fun hg => j0) (hr := ?_)
      refine goB ?_
      exact Ret.bool rfl (by simp)
    · rw [(hF h).1] at i1 i2
      refine Fn.intro' [(0, str s)] 1 49 Try.func9 (by kernel_rfl) rfl rfl rfl rfl rfl ?_
      refine goB ?_
      refine iffd_ rfl (by omega) ?_
      refine goB ?_
      refine callA (i1) ?_
      refine goB ?_
      refine callA (i2) ?_
      refine goB ?_
      refine gcallA (i := fun hg => i3) (hr := ?_)
      refine goB ?_
      refine iff_ ?_
      refine goB ?_
      refine ift_ ?_
      refine goB ?_
      refine callA (j0) ?_
      refine goB ?_
      exact Ret.bool rfl (by simp)
  · refine Fn.intro' [(0, str s)] 1 49 Try.func9 (by kernel_rfl) rfl rfl rfl rfl rfl ?_
    refine goB ?_
    refine iftd_ rfl (by omega) ?_
    refine goB ?_
    exact Ret.bool rfl (by simp)
end Go.Ab
