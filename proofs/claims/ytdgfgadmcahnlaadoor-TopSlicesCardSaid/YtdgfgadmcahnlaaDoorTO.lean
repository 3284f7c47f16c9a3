/- Part of the proof. -/
import Derived.Test.YtdgfgadmcahnlaaDoorEQ24
set_option linter.unusedSimpArgs false
set_option linter.unusedVariables false
set_option maxHeartbeats 4000000
namespace Go.Ab
open Go Go.Ab

/-! ### parts of a text: plain -/
theorem get_part {s : ByteArray} {l h k : Nat} (hh : h ≤ s.size) (hk : l + k < h) : bt (s.extract l h) k = bt s (l + k) := by
  have h1 : k < (s.extract l h).size := by rw [ByteArray.size_extract]; omega
  have h2 : l + k < s.size := by omega
  have e1 := bt_get h1
  have e2 := bt_get h2
  rw [getElem?_pos (s.extract l h) k h1] at e1
  rw [getElem?_pos s (l + k) h2] at e2
  injection e1 with e1; injection e2 with e2
  unfold bt
  rw [← e1, ← e2, ByteArray.getElem_extract]
def wdN (b0 b1 b2 b3 n : Nat) : Nat :=
  if n ≤ 0 then 0 else
  if b0 < 0x80 then 1 else
  if 0xC2 ≤ b0 ∧ b0 ≤ 0xDF then (if n < 2 ∨ b1 < 0x80 ∨ 0xBF < b1 then 0 else 2) else
  if 0xE0 ≤ b0 ∧ b0 ≤ 0xEF then
    (if n < 3 ∨ b1 < (if b0 = 0xE0 then 0xA0 else 0x80) ∨ (if b0 = 0xED then 0x9F else 0xBF) < b1 ∨ b2 < 0x80 ∨ 0xBF < b2 then 0 else 3) else
  if 0xF0 ≤ b0 ∧ b0 ≤ 0xF4 then
    (if n < 4 ∨ b1 < (if b0 = 0xF0 then 0x90 else 0x80) ∨ (if b0 = 0xF4 then 0x8F else 0xBF) < b1 ∨ b2 < 0x80 ∨ 0xBF < b2 ∨ b3 < 0x80 ∨ 0xBF < b3 then 0 else 4) else 0
theorem wd_wdN (s : ByteArray) (i : Nat) : wd s i = wdN (bt s i) (bt s (i + 1)) (bt s (i + 2)) (bt s (i + 3)) (s.size - i) := by
  unfold wd wdN
  simp only [show s.size - i ≤ 0 ↔ s.size ≤ i by omega, show s.size - i < 2 ↔ s.size < i + 2 by omega, show s.size - i < 3 ↔ s.size < i + 3 by omega, show s.size - i < 4 ↔ s.size < i + 4 by omega]
theorem wdN_part {b0 b1 b2 b3 c1 c2 c3 n m w : Nat} (h : wdN b0 b1 b2 b3 n = w) (hw : 0 < w) (hm : w ≤ m) (e1 : 2 ≤ w → c1 = b1) (e2 : 3 ≤ w → c2 = b2) (e3 : 4 ≤ w → c3 = b3) : wdN b0 c1 c2 c3 m = w := by
  unfold wdN at h ⊢
  by_cases a : n ≤ 0
  · rw [if_pos a] at h; omega
  rw [if_neg a] at h; rw [if_neg (show ¬ m ≤ 0 by omega)]
  by_cases k1 : b0 < 0x80
  · rw [if_pos k1] at h ⊢; exact h
  rw [if_neg k1] at h ⊢
  by_cases k2 : 0xC2 ≤ b0 ∧ b0 ≤ 0xDF
  · rw [if_pos k2] at h ⊢
    by_cases q : n < 2 ∨ b1 < 0x80 ∨ 0xBF < b1
    · rw [if_pos q] at h; omega
    · rw [if_neg q] at h
      have := e1 (by omega)
      rw [if_neg (by omega)]; exact h
  rw [if_neg k2] at h ⊢
  by_cases k3 : 0xE0 ≤ b0 ∧ b0 ≤ 0xEF
  · rw [if_pos k3] at h ⊢
    generalize (if b0 = 0xE0 then 0xA0 else 0x80) = lo at *
    generalize (if b0 = 0xED then 0x9F else 0xBF) = hi at *
    by_cases q : n < 3 ∨ b1 < lo ∨ hi < b1 ∨ b2 < 0x80 ∨ 0xBF < b2
    · rw [if_pos q] at h; omega
    · rw [if_neg q] at h
      have := e1 (by omega)
      have := e2 (by omega)
      rw [if_neg (by omega)]; exact h
  rw [if_neg k3] at h ⊢
  by_cases k4 : 0xF0 ≤ b0 ∧ b0 ≤ 0xF4
  · rw [if_pos k4] at h ⊢
    generalize (if b0 = 0xF0 then 0x90 else 0x80) = lo at *
    generalize (if b0 = 0xF4 then 0x8F else 0xBF) = hi at *
    by_cases q : n < 4 ∨ b1 < lo ∨ hi < b1 ∨ b2 < 0x80 ∨ 0xBF < b2 ∨ b3 < 0x80 ∨ 0xBF < b3
    · rw [if_pos q] at h; omega
    · rw [if_neg q] at h
      have := e1 (by omega)
      have := e2 (by omega)
      have := e3 (by omega)
      rw [if_neg (by omega)]; exact h
  · rw [if_neg k4] at h; omega
theorem dec_part {s : ByteArray} {l h i : Nat} (hh : h ≤ s.size) (hw : 0 < wd s (l + i)) (he : l + i + wd s (l + i) ≤ h) : wd (s.extract l h) i = wd s (l + i) ∧ Utf8.decode (s.extract l h) i = Utf8.decode s (l + i) := by
  have hz : (s.extract l h).size = h - l := by rw [ByteArray.size_extract]; omega
  have b0 := get_part (s := s) (l := l) (h := h) (k := i) hh (by omega)
  have hw4 := wd_four s (l + i)
  have e1 : 2 ≤ wd s (l + i) → bt (s.extract l h) (i + 1) = bt s (l + i + 1) := fun q => get_part (k := i + 1) hh (by omega)
  have e2 : 3 ≤ wd s (l + i) → bt (s.extract l h) (i + 2) = bt s (l + i + 2) := fun q => get_part (k := i + 2) hh (by omega)
  have e3 : 4 ≤ wd s (l + i) → bt (s.extract l h) (i + 3) = bt s (l + i + 3) := fun q => get_part (k := i + 3) hh (by omega)
  have h1 : wd (s.extract l h) i = wd s (l + i) := by
    rw [wd_wdN (s.extract l h) i, b0, hz]
    exact wdN_part (wd_wdN s (l + i)).symm hw (by omega) e1 e2 e3
  refine ⟨h1, ?_⟩
  have hi : i < (s.extract l h).size := by omega
  have hi2 : l + i < s.size := by omega
  rcases wd_dec hi with ⟨q, _⟩ | ⟨_, q, _⟩
  · omega
  rcases wd_dec hi2 with ⟨q', _⟩ | ⟨_, q', _⟩
  · omega
  rw [q, q', h1]
  congr 1
  generalize wd s (l + i) = w at *
  obtain rfl | rfl | rfl | rfl : w = 1 ∨ w = 2 ∨ w = 3 ∨ w = 4 := by omega
  · exact b0
  · simp only [cd, b0, e1 (by omega)]
  · simp only [cd, b0, e1 (by omega), e2 (by omega)]
  · simp only [cd, b0, e1 (by omega), e2 (by omega), e3 (by omega)]
def part (s : ByteArray) (a b : Nat) : ByteArray := s.extract (pz s a) (pz s b)
theorem part_size (s : ByteArray) (a b : Nat) : (part s a b).size = pz s b - pz s a := by
  have := pz_le s b
  rw [part, ByteArray.size_extract]; omega
theorem part_pz {s : ByteArray} (hv : Vd s 0) {a b : Nat} (hab : a ≤ b) (hb : b ≤ nch s) : ∀ k, k ≤ b - a → pz s a + pz (part s a b) k = pz s (a + k)
  | 0, _ => rfl
  | k + 1, h => by
    have ih := part_pz hv hab hb k (by omega)
    have hk : pz s (a + k) < s.size := nch_iff.1 (by omega)
    obtain ⟨d1, d2, d3, d4, d5⟩ := Vd.dec hv hk
    have hm := pz_mono s (show a + k + 1 ≤ b by omega)
    have hm2 := pz_mono s (show a ≤ a + k by omega)
    have hps := part_size s a b
    have hd := dec_part (s := s) (l := pz s a) (h := pz s b) (i := pz (part s a b) k) (pz_le s b) (by rw [ih]; omega) (by rw [ih]; omega)
    rw [ih] at hd
    have hlt : pz (part s a b) k < (part s a b).size := by omega
    rw [pz, if_pos hlt]
    have : (Utf8.decode (part s a b) (pz (part s a b) k)).2 = wd s (pz s (a + k)) := by
      have hd2 : Utf8.decode (part s a b) (pz (part s a b) k) = Utf8.decode s (pz s (a + k)) := hd.2
      rw [hd2]
      rcases wd_dec hk with ⟨q, _⟩ | ⟨_, q, _⟩
      · omega
      · rw [q]
    rw [this]
    have e : a + (k + 1) = a + k + 1 := rfl
    rw [e]; omega
theorem part_dec {s : ByteArray} (hv : Vd s 0) {a b : Nat} (hab : a ≤ b) (hb : b ≤ nch s) {k : Nat} (hk : a + k < b) : wd (part s a b) (pz (part s a b) k) = wd s (pz s (a + k)) ∧ rnA (part s a b) k = rnA s (a + k) := by
  have ih := part_pz hv hab hb k (by omega)
  have hk2 : pz s (a + k) < s.size := nch_iff.1 (by omega)
  obtain ⟨d1, d2, d3, d4, d5⟩ := Vd.dec hv hk2
  have hm := pz_mono s (show a + k + 1 ≤ b by omega)
  have hd := dec_part (s := s) (l := pz s a) (h := pz s b) (i := pz (part s a b) k) (pz_le s b) (by rw [ih]; omega) (by rw [ih]; omega)
  rw [ih] at hd
  have hd2 : Utf8.decode (part s a b) (pz (part s a b) k) = Utf8.decode s (pz s (a + k)) := hd.2
  refine ⟨hd.1, ?_⟩
  unfold rnA
  rw [hd2]
theorem pz_step {s : ByteArray} {a b : Nat} (hab : a < b) (hb : b ≤ nch s) : pz s a < pz s b := by
  have h1 := pz_lt (nch_iff.1 (show a < nch s by omega))
  have h2 := pz_mono s (show a + 1 ≤ b by omega)
  omega
theorem part_nch {s : ByteArray} (hv : Vd s 0) {a b : Nat} (hab : a ≤ b) (hb : b ≤ nch s) : nch (part s a b) = b - a := by
  have hps := part_size s a b
  refine nch_eq (fun j hj => ?_) ?_
  · have := part_pz hv hab hb j (by omega)
    have := pz_step (s := s) (show a + j < b by omega) hb
    omega
  · have := part_pz hv hab hb (b - a) (Nat.le_refl _)
    rw [show a + (b - a) = b by omega] at this
    omega
theorem part_cls {s : ByteArray} (hv : Vd s 0) {a b : Nat} (hab : a ≤ b) (hb : b ≤ nch s) {k : Nat} (hk : a + k < b) : cls (part s a b) k = cls s (a + k) := by
  unfold cls
  rw [(part_dec hv hab hb hk).2]
theorem part_vd {s : ByteArray} (hv : Vd s 0) {a b : Nat} (hab : a ≤ b) (hb : b ≤ nch s) : Vd (part s a b) 0 := by
  have hps := part_size s a b
  have key : ∀ d k, k + d = b - a → Vd (part s a b) (pz (part s a b) k) := by
    intro d
    induction d with
    | zero =>
      intro k hk
      have := part_pz hv hab hb k (by omega)
      rw [show a + k = b by omega] at this
      exact .fin _ (by omega)
    | succ d ih =>
      intro k hk
      have h1 := part_pz hv hab hb k (by omega)
      have h2 := part_pz hv hab hb (k + 1) (by omega)
      have h3 := part_dec hv hab hb (k := k) (by omega)
      have hk2 : pz s (a + k) < s.size := nch_iff.1 (by omega)
      obtain ⟨d1, d2, d3, d4, d5⟩ := Vd.dec hv hk2
      have h4 := pz_step (s := s) (show a + k < b by omega) hb
      have e : a + (k + 1) = a + k + 1 := rfl
      rw [e] at h2
      refine .step _ (by omega) (by rw [h3.1]; omega) ?_
      rw [h3.1, show pz (part s a b) k + wd s (pz s (a + k)) = pz (part s a b) (k + 1) by omega]
      exact ih (k + 1) (by omega)
  exact key (b - a) 0 (by omega)
theorem part_all {s : ByteArray} : part s 0 (nch s) = s := by
  rw [part, nch_at]
  show s.extract 0 s.size = s
  simp
end Go.Ab
set_option maxHeartbeats 4000000
namespace Go.Ab
open Go Go.Ab

/-! ### boundaries of parts: plain -/
abbrev shf (cl : Nat → Cl) (a : Nat) : Nat → Cl := fun j => cl (a + j)
theorem cntR_le (cl : Nat → Cl) : ∀ n, cntR cl n ≤ n
  | 0 => Nat.le_refl _
  | n + 1 => by have := cntR_le cl n; rw [cntR]; split <;> omega
theorem cntR_shf (cl : Nat → Cl) (a : Nat) : ∀ i, cntR cl (a + i) = cntR (shf cl a) i + if cntR (shf cl a) i = i then cntR cl a else 0
  | 0 => by simp [cntR]
  | i + 1 => by
    have ih := cntR_shf cl a i
    have hle := cntR_le (shf cl a) i
    have e : a + (i + 1) = (a + i) + 1 := rfl
    rw [e, cntR, cntR]
    by_cases h : cl (a + i) = .regional
    · rw [if_pos h, if_pos (show shf cl a i = .regional from h), ih]
      by_cases q : cntR (shf cl a) i = i
      · rw [if_pos q, if_pos (by omega)]; try omega
      · rw [if_neg q, if_neg (by omega)]; try omega
    · rw [if_neg h, if_neg (show ¬ shf cl a i = .regional from h)]; simp
theorem cntR_first (cl : Nat → Cl) : ∀ i, 0 < i → cntR cl i = i → cl 0 = .regional
  | i + 1, _, h => by
    have hle := cntR_le cl i
    rw [cntR] at h
    split at h
    · rename_i hr
      rcases Nat.eq_zero_or_pos i with rfl | hi
      · exact hr
      · exact cntR_first cl i hi (by omega)
    · omega
theorem skipE_shf (cl : Nat → Cl) (a : Nat) : ∀ n, skipE cl (a + n) = match skipE (shf cl a) n with
    | some k => some (a + k)
    | none => skipE cl a
  | 0 => rfl
  | n + 1 => by
    have ih := skipE_shf cl a n
    have e : a + (n + 1) = (a + n) + 1 := rfl
    rw [e, skipE, skipE]
    by_cases h : cl (a + n) = .extend
    · rw [if_pos h, if_pos (show shf cl a n = .extend from h)]; exact ih
    · rw [if_neg h, if_neg (show ¬ shf cl a n = .extend from h)]
theorem skipE_none (cl : Nat → Cl) : ∀ n, 0 < n → skipE cl n = none → cl 0 = .extend
  | n + 1, _, h => by
    rw [skipE] at h
    split at h
    · rename_i he
      rcases Nat.eq_zero_or_pos n with rfl | hn
      · exact he
      · exact skipE_none cl n hn h
    · cases h
theorem hard_of {cl : Nat → Cl} {a : Nat} (h : joinsS cl a = false) (he : cl a = .extend ∨ cl a = .zwj) : hard (cl (a - 1)) = true := by
  unfold joinsS at h
  rw [if_neg (by rintro ⟨_, q⟩; rw [q] at he; rcases he with he | he <;> cases he)] at h
  by_cases q : hard (cl (a - 1)) = true
  · exact q
  · exfalso
    have q2 : hard (cl a) = false := by rcases he with he | he <;> rw [he] <;> rfl
    have q3 : jB (cl (a - 1)) (cl a) = true := by
      unfold jB
      rw [decide_eq_true_iff]
      rcases he with he | he
      · exact .inl he
      · exact .inr (.inl he)
    simp [q, q2, q3] at h
theorem pict_back {cl : Nat → Cl} {a : Nat} (h0 : 0 < a) (h : hard (cl (a - 1)) = true) : isPict cl (skipE cl a) = false := by
  obtain ⟨b, rfl⟩ : ∃ b, a = b + 1 := ⟨a - 1, by omega⟩
  rw [Nat.add_sub_cancel] at h
  have : ¬ cl b = .extend := fun e => by rw [e] at h; exact absurd h (by decide)
  rw [skipE, if_neg this]
  show decide (cl b = .pict) = false
  rw [decide_eq_false_iff_not]
  intro e; rw [e] at h; exact absurd h (by decide)
theorem even_back {cl : Nat → Cl} {a : Nat} (h0 : 0 < a) (h : joinsS cl a = false) (hr : cl a = .regional) : cntR cl a % 2 = 0 := by
  by_cases q : cl (a - 1) = .regional
  · unfold joinsS at h
    rw [q, hr] at h
    have e1 : jA .regional .regional = false := by decide
    have e2 : jB .regional .regional = false := by decide
    have e3 : hard .regional = false := by decide
    simp [e1, e2, e3] at h
    omega
  · obtain ⟨b, rfl⟩ : ∃ b, a = b + 1 := ⟨a - 1, by omega⟩
    rw [Nat.add_sub_cancel] at q
    rw [cntR, if_neg q]
theorem joins_shf {cl : Nat → Cl} {a i : Nat} (ha : a = 0 ∨ joinsS cl a = false) (hi : 0 < i) : joinsS (shf cl a) i = joinsS cl (a + i) := by
  rcases Nat.eq_zero_or_pos a with rfl | h0
  · have : shf cl 0 = cl := by funext j; show cl (0 + j) = cl j; rw [Nat.zero_add]
    rw [this, Nat.zero_add]
  have ha : joinsS cl a = false := by
    rcases ha with ha | ha
    · omega
    · exact ha
  obtain ⟨i, rfl⟩ : ∃ n, i = n + 1 := ⟨i - 1, by omega⟩
  have e1 : a + (i + 1) - 1 = a + i := by omega
  have hp : cl (a + i) = .zwj → isPict cl (skipE cl (a + i)) = isPict (shf cl a) (skipE (shf cl a) i) := by
    intro hz
    rw [skipE_shf]
    rcases hs : skipE (shf cl a) i with _ | k
    · show isPict cl (skipE cl a) = false
      refine pict_back h0 (hard_of ha ?_)
      rcases Nat.eq_zero_or_pos i with rfl | hi
      · exact .inr hz
      · exact .inl (skipE_none (shf cl a) i hi hs)
    · rfl
  have hc : cntR cl (a + (i + 1)) % 2 = cntR (shf cl a) (i + 1) % 2 := by
    rw [cntR_shf]
    split
    · rename_i q
      have := even_back h0 ha (cntR_first (shf cl a) (i + 1) (by omega) q)
      omega
    · rw [Nat.add_zero]
  unfold joinsS
  rw [e1, hc]
  simp only [Nat.add_sub_cancel, shf]
  by_cases z : cl (a + i) = .zwj
  · rw [hp z]
  · simp only [z, false_and, if_false]
def bI (cl : Nat → Cl) : Nat → List Nat
  | 0 => []
  | k + 1 => if k = 0 ∨ joinsS cl k = false then bI cl k ++ [k] else bI cl k
theorem bF_bI (s : ByteArray) : ∀ k, bF s k = (bI (cls s) k).map (pz s)
  | 0 => rfl
  | k + 1 => by
    rw [bF, bI, bF_bI s k]
    split
    · rw [List.map_append]; rfl
    · rfl
theorem bI_congr {f g : Nat → Cl} : ∀ {k : Nat}, (∀ j, j < k → f j = g j) → bI f k = bI g k
  | 0, _ => rfl
  | k + 1, h => by rw [bI, bI, bI_congr (k := k) fun j hj => h j (by omega), joinsS_congr (i := k) fun j hj => h j (by omega)]
theorem bI_shf {cl : Nat → Cl} {a : Nat} (ha : a = 0 ∨ joinsS cl a = false) : ∀ m, bI cl (a + m) = bI cl a ++ (bI (shf cl a) m).map (a + ·)
  | 0 => by simp [bI]
  | m + 1 => by
    have ih := bI_shf ha m
    have e : a + (m + 1) = (a + m) + 1 := rfl
    rw [e, bI, bI, ih]
    rcases Nat.eq_zero_or_pos m with rfl | hm
    · rw [if_pos (by rcases ha with ha | ha; exact .inl (by omega); exact .inr ha), if_pos (.inl rfl)]
      simp
    · have hj := joins_shf ha hm
      by_cases q : joinsS cl (a + m) = false
      · rw [if_pos (.inr q), if_pos (.inr (hj.trans q))]; simp
      · rw [if_neg (by rintro (h | h); omega; exact q h), if_neg (by rintro (h | h); omega; exact q (hj.symm.trans h))]
theorem bI_lt {cl : Nat → Cl} : ∀ {k x : Nat}, x ∈ bI cl k → x < k ∧ (x = 0 ∨ joinsS cl x = false)
  | 0, x, h => by cases h
  | k + 1, x, h => by
    rw [bI] at h
    split at h
    · rename_i hk
      rcases List.mem_append.1 h with h | h
      · have := bI_lt h; exact ⟨by omega, this.2⟩
      · rw [List.mem_singleton] at h; subst h; exact ⟨by omega, hk⟩
    · have := bI_lt h; exact ⟨by omega, this.2⟩
theorem bI_inc {cl : Nat → Cl} : ∀ {k : Nat}, (bI cl k).Pairwise (· < ·)
  | 0 => .nil
  | k + 1 => by
    rw [bI]
    split
    · exact List.pairwise_append.2 ⟨bI_inc, List.pairwise_singleton _ _, fun a ha b hb => by rw [List.mem_singleton] at hb; subst hb; exact (bI_lt ha).1⟩
    · exact bI_inc
theorem bI_head {cl : Nat → Cl} : ∀ k, 0 < k → ∃ r, bI cl k = 0 :: r
  | k + 1, _ => by
    rcases Nat.eq_zero_or_pos k with rfl | h
    · exact ⟨[], rfl⟩
    · obtain ⟨r, hr⟩ := bI_head (cl := cl) k h
      rw [bI, hr]
      split
      · exact ⟨r ++ [k], rfl⟩
      · exact ⟨r, rfl⟩
noncomputable def mI (s : ByteArray) : List Nat := bI (cls s) (nch s) ++ [nch s]
theorem nch_0 {s : ByteArray} : nch s = 0 ↔ s.size = 0 := by
  constructor
  · intro h
    have := nch_at s
    rw [h] at this; exact this.symm
  · intro h; have := nch_le s; omega
theorem mks_I (s : ByteArray) : mks s = (mI s).map (pz s) := by
  unfold mks mI
  split
  · rw [bF_bI, List.map_append, List.map_cons, List.map_nil, nch_at]
  · rename_i h
    have : nch s = 0 := nch_0.2 (by omega)
    rw [this]; rfl
def atB (s : ByteArray) (a : Nat) : Prop := a = nch s ∨ (a < nch s ∧ (a = 0 ∨ joinsS (cls s) a = false))
theorem mI_B {s : ByteArray} {a : Nat} (h : a ∈ mI s) : a ≤ nch s ∧ atB s a := by
  rw [mI, List.mem_append, List.mem_singleton] at h
  rcases h with h | h
  · have := bI_lt h; exact ⟨by omega, .inr this⟩
  · exact ⟨by omega, .inl h⟩
theorem part_bI {s : ByteArray} (hv : Vd s 0) {a b : Nat} (hab : a ≤ b) (hb : b ≤ nch s) {m : Nat} (hm : m ≤ b - a) : bI (cls (part s a b)) m = bI (shf (cls s) a) m :=
  bI_congr fun j hj => part_cls hv hab hb (by omega)
theorem part_mI {s : ByteArray} (hv : Vd s 0) {a b : Nat} (hab : a ≤ b) (hb : b ≤ nch s) : mI (part s a b) = bI (shf (cls s) a) (b - a) ++ [b - a] := by
  rw [mI, part_nch hv hab hb, part_bI hv hab hb (Nat.le_refl _)]
theorem mI_cut {s : ByteArray} {a : Nat} (ha : atB s a) (hle : a ≤ nch s) : mI s = bI (cls s) a ++ (bI (shf (cls s) a) (nch s - a) ++ [nch s - a]).map (a + ·) := by
  have e : a + (nch s - a) = nch s := by omega
  rw [mI, List.map_append, List.map_cons, List.map_nil, e]
  rcases ha with h | ⟨_, h⟩
  · rw [← h, Nat.sub_self]; simp [bI]
  · have := bI_shf h (nch s - a)
    rw [e] at this
    rw [this, List.append_assoc]
theorem bnds_mks {s : ByteArray} (h : 0 < s.size) : bnds s = mks s := by rw [bnds, mks, if_pos h, if_pos h]
theorem bnds_nil {s : ByteArray} (h : s.size = 0) : bnds s = [] := by rw [bnds, if_neg (by omega)]
theorem bnds_le {s : ByteArray} {z : Nat} (h : z ∈ bnds s) : z ≤ s.size := by
  by_cases hs : 0 < s.size
  · rw [bnds_mks hs] at h; exact mks_le s z h
  · rw [bnds_nil (by omega)] at h; cases h
end Go.Ab
