/- Part of the proof. -/
import Derived.Test.YtdgfgadmcahnlaaDoorUR24
set_option linter.unusedSimpArgs false
set_option linter.unusedVariables false
set_option maxHeartbeats 4000000
namespace Go.Ab
open Go Go.Ab Go.Proofs

/-! ### the canonical form of a canonical form: plain -/
theorem full_fin : ∀ {n : Nat} {c : Int}, deep n c → ∀ x ∈ full n c, prt x = none
  | 0, c, h, x, hx => by rw [full, List.mem_singleton] at hx; subst hx; exact h
  | n + 1, c, h, x, hx => by
    rcases h with h | ⟨l, h, _, _, hd⟩
    · rw [full, h] at hx
      simp only [List.mem_singleton] at hx; subst hx; exact h
    · rw [full, h] at hx
      simp only [List.mem_flatten, List.mem_map] at hx
      obtain ⟨_, ⟨y, hy, rfl⟩, hx⟩ := hx
      exact full_fin (hd y hy).2 x hx
theorem full_id {n : Nat} {c : Int} (h : prt c = none) : full n c = [c] := by
  cases n with
  | zero => rfl
  | succ n => rw [full, h]
theorem ptsL_fin (s : ByteArray) (k : Nat) : ∀ x ∈ ptsL s k, prt x = none := by
  intro x hx
  simp only [ptsL, List.mem_flatten, List.mem_map] at hx
  obtain ⟨_, ⟨y, _, rfl⟩, hx⟩ := hx
  exact full_fin (deep3 y) x hx
theorem okL_cons {x : Int} {l : List Int} (hx : rk x = 0) (h : okL l) : okL (x :: l) := by
  cases l with
  | nil => trivial
  | cons y l =>
    refine ⟨?_, h⟩
    rcases rk_vals y with e | e | e | e | e <;> omega
theorem okL_mid : ∀ {A B : List Int} {x : Int}, Srt A → rk x = 0 → okL (x :: B) → okL (A ++ x :: B)
  | [], B, x, _, _, h => h
  | [a], B, x, _, hx, h => ⟨.inl hx, h⟩
  | a :: b :: A, B, x, hA, hx, h => by
    unfold Srt at hA
    rw [List.pairwise_cons] at hA
    exact ⟨.inr (hA.1 b (by simp)), okL_mid (A := b :: A) hA.2 hx h⟩
theorem okL_srt : ∀ {A : List Int}, Srt A → okL A
  | [], _ => trivial
  | [a], _ => trivial
  | a :: b :: A, hA => by
    unfold Srt at hA
    rw [List.pairwise_cons] at hA
    exact ⟨.inr (hA.1 b (by simp)), okL_srt (A := b :: A) hA.2⟩
theorem canG_srt : ∀ {l run : List Int}, (∀ y ∈ run, 0 < rk y) → okL (canG run l)
  | [], run, h => by
    rw [canG, ← st_pos h]
    exact okL_srt (st_srt _)
  | x :: l, run, h => by
    rw [canG]
    split
    · rename_i hx
      exact canG_srt fun y hy => by
        rcases List.mem_append.1 hy with hy | hy
        · exact h y hy
        · rw [List.mem_singleton] at hy; subst hy; exact hx
    · rename_i hx
      have hx0 : rk x = 0 := by rcases rk_vals x with e | e | e | e | e <;> omega
      rw [← st_pos h]
      exact okL_mid (st_srt _) hx0 (okL_cons hx0 (canG_srt fun y hy => by cases hy))
theorem canL_idem (l : List Int) : canL (canL l) = canL l := canL_ok (canG_srt fun y hy => by cases hy)
noncomputable abbrev cnL (s : ByteArray) : List Int := canL (ptsL s (nch s))
theorem cnL_valid (s : ByteArray) : ∀ c ∈ cnL s, Utf8.valid c = true := fun c hc => ptsL_valid s _ c ((mem_canL _ c).1 hc)
theorem cnL_fin (s : ByteArray) : ∀ c ∈ cnL s, prt c = none := fun c hc => ptsL_fin s _ c ((mem_canL _ c).1 hc)
theorem flat_id (n : Nat) : ∀ {l : List Int}, (∀ x ∈ l, prt x = none) → (l.map (full n)).flatten = l
  | [], _ => rfl
  | x :: l, h => by
    rw [List.map_cons, List.flatten_cons, full_id (h x (by simp)), flat_id n fun y hy => h y (by simp [hy])]; rfl
theorem canS_vd (s : ByteArray) : Vd (canS s) 0 := encS_vd (cnL_valid s)
theorem canS_idem (s : ByteArray) : canS (canS s) = canS s := by
  have h1 : canS s = encS (cnL s) := rfl
  have h2 : ptsL (canS s) (nch (canS s)) = cnL s := by
    rw [ptsL, h1, encS_riL (cnL_valid s), flat_id 3 (cnL_fin s)]
  show encS (canL (ptsL (canS s) (nch (canS s)))) = _
  rw [h2, canL_idem]
  rfl
/-! bytewise order -/
theorem bl_irr : ∀ l : List UInt8, Op.bytesLess l l = false
  | [] => rfl
  | a :: l => by simp [Op.bytesLess, bl_irr l]
theorem bl_tot : ∀ a b : List UInt8, a = b ∨ Op.bytesLess a b = true ∨ Op.bytesLess b a = true
  | [], [] => .inl rfl
  | [], _ :: _ => .inr (.inl rfl)
  | _ :: _, [] => .inr (.inr rfl)
  | a :: x, b :: y => by
    simp only [Op.bytesLess, Bool.or_eq_true, Bool.and_eq_true, decide_eq_true_eq, beq_iff_eq]
    rcases UInt8.lt_or_lt_of_ne |> fun f => (if h : a = b then Or.inl h else Or.inr (f h) : a = b ∨ a < b ∨ b < a) with h | h | h
    · subst h
      rcases bl_tot x y with e | e | e
      · left; rw [e]
      · right; left; exact .inr ⟨rfl, e⟩
      · right; right; exact .inr ⟨rfl, e⟩
    · right; left; exact .inl h
    · right; right; exact .inl h
theorem bl_trans : ∀ {a b c : List UInt8}, Op.bytesLess a b = true → Op.bytesLess b c = true → Op.bytesLess a c = true
  | _, [], _, h, _ => by cases ‹List UInt8› <;> simp [Op.bytesLess] at h
  | _, _ :: _, [], _, h => by simp [Op.bytesLess] at h
  | [], _ :: _, _ :: _, _, _ => rfl
  | a :: x, b :: y, c :: z, h1, h2 => by
    simp only [Op.bytesLess, Bool.or_eq_true, Bool.and_eq_true, decide_eq_true_eq, beq_iff_eq] at h1 h2 ⊢
    rcases h1 with h1 | ⟨rfl, h1⟩
    · rcases h2 with h2 | ⟨rfl, h2⟩
      · exact .inl (UInt8.lt_trans h1 h2)
      · exact .inl h1
    · rcases h2 with h2 | ⟨rfl, h2⟩
      · exact .inl h2
      · exact .inr ⟨rfl, bl_trans h1 h2⟩
theorem bl_asym {a b : List UInt8} (h : Op.bytesLess a b = true) : Op.bytesLess b a = false := by
  cases h2 : Op.bytesLess b a with
  | false => rfl
  | true => have := bl_trans h h2; rw [bl_irr] at this; cases this
end Go.Ab
