/- The rule for such calls. -/
import Derived.Laws.BytesString
import Derived.Laws.Cells
import Derived.Lib.AppendStr
import Derived.Lib.UnsafeStr
import Derived.Lib.Builder
import Derived.Laws.Pointers
import Derived.Test.YthgicbkdckpeaaaDoorG13
set_option linter.unusedSimpArgs false
set_option linter.unusedVariables false
namespace Go.Ab
open Go Go.RowKit

def ro (e : List Nat) (b : Nat) : Option Nat := e.findIdx? (· == b)
def rb (e : List Nat) (n : Nat) (j : Nat) : Option Nat := if j < e.length then e[j]? else some (n + (j - e.length))
theorem ro_some {e : List Nat} {b j : Nat} (h : ro e b = some j) : e[j]? = some b := by
  unfold ro at h
  rw [List.findIdx?_eq_some_iff_getElem] at h
  obtain ⟨hj, h1, _⟩ := h
  rw [List.getElem?_eq_getElem hj]
  simp at h1
  rw [h1]

structure CallE (e : List Nat) (HC H H' HC' : List ABlk) : Prop where
  one : e.Nodup
  len : e.length = H.length
  inn : ∀ (j b : Nat), e[j]? = some b → ∃ bc bk, HC[b]? = some bc ∧ H[j]? = some bk ∧ BlkMv (ro e) HC bc bk
  le : H.length ≤ H'.length
  len2 : HC'.length = HC.length + (H'.length - H.length)
  stay : ∀ (b : Nat), b < HC.length → b ∉ e → HC'[b]? = HC[b]?
  out : ∀ (j c : Nat) (bk : ABlk), rb e HC.length j = some c → H'[j]? = some bk → ∃ bc, HC'[c]? = some bc ∧ BlkMv (rb e HC.length) H' bk bc

section
variable {P : Program} {HC : List ABlk}
theorem pl_callH {ρ : Operand → AV} {c : Call} {fx : Operand} {f : FuncId} {caps args : List AV} {d d' : AV} {e : List Nat} {H H' HC' : List ABlk} (hf : FnH P f args H d H') (hE : CallE e HC H H' HC') (hc : c.callee = .value fx)
    (hfx : ρ fx = .clo f caps) (ha : MvL (ro e) HC (c.args.toList.map ρ ++ caps) args) (hd : MvR (rb e HC.length) H' d d') : PL P HC ρ (.call c) d' HC' := by
  intro o ho w0 O ι a w hs hv K Q hK
  obtain ⟨⟨fn, g1, g2, g3⟩, g4⟩ := hf
  have h5 := hv fx
  rw [hfx] at h5
  generalize hX : a.eval fx = X at h5
  cases h5 with
  | clo f caps arr hlen hcap =>
  have hargs : ∀ (j : Nat) (x : AV) (u : Value), (c.args.toList.map ρ ++ caps)[j]? = some x → (c.args.map a.eval ++ arr)[j]? = some u → VR w (OO O ι HC) ι HC x u := by
    intro j x u hx hu
    rw [List.getElem?_append] at hx
    rw [Array.getElem?_append] at hu
    simp only [List.length_map, Array.length_toList, Array.size_map] at hx hu
    split at hx
    · rename_i hj
      rw [if_pos hj] at hu
      simp only [List.getElem?_map, Array.getElem?_map, Array.getElem?_toList, Option.map_eq_some_iff] at hx hu
      obtain ⟨y, hy, rfl⟩ := hx
      obtain ⟨z, hz, rfl⟩ := hu
      rw [hy] at hz; cases hz
      exact hv y
    · rename_i hj
      rw [if_neg hj] at hu
      exact hcap _ _ _ hx hu
  have hrun : (execOp a.eval o).run P w = .ok (.enter f (c.args.map a.eval ++ arr)) w := by
    unfold execOp
    rw [ho]
    simp only [resolve, hc, Deferred.ofValue, hX, Sem.run_bind, Sem.run_pure, Result.andThen_ok, invoke, Array.empty_append, callFunc_run g1 g2 g3]
  -- the callee's numbers
  let ι1 : Nat → Option Nat := fun j => (e[j]?).bind ι
  have hι1 : ∀ j b, e[j]? = some b → ι1 j = ι b := fun j b h => by simp [ι1, h]
  have hjlt : ∀ j, j < H.length → ∃ b, e[j]? = some b := fun j hj => ⟨_, List.getElem?_eq_getElem (by rw [hE.len]; exact hj)⟩
  have hblt : ∀ j b, e[j]? = some b → b < HC.length := fun j b h => by
    obtain ⟨bc, bk, h1, _⟩ := hE.inn j b h
    exact (List.getElem?_eq_some_iff.1 h1).1
  have huniq : ∀ i j b, e[i]? = some b → e[j]? = some b → i = j := fun i j b h1 h2 => by
    obtain ⟨h1l, h1e⟩ := List.getElem?_eq_some_iff.1 h1
    obtain ⟨h2l, h2e⟩ := List.getElem?_eq_some_iff.1 h2
    exact (List.getElem_inj hE.one).1 (h1e.trans h2e.symm)
  have hlt : ∀ b x, b < HC.length → ι b = some x → x < w.heap.size := fun b x hb hx => (hs.heap b _ x (List.getElem?_eq_getElem hb) hx).2.lt
  have hrngI : ∀ x, rng ι1 H x ↔ ∃ j b, e[j]? = some b ∧ ι b = some x := fun x => by
    constructor
    · rintro ⟨j, hj, hx⟩
      obtain ⟨b, hb⟩ := hjlt j hj
      exact ⟨j, b, hb, by rw [← hι1 j b hb]; exact hx⟩
    · rintro ⟨j, b, hb, hx⟩
      exact ⟨j, by rw [← hE.len]; exact (List.getElem?_eq_some_iff.1 hb).1, by rw [hι1 j b hb]; exact hx⟩
  let O1 : Nat → Prop := fun x => OO O ι HC x ∧ ¬ rng ι1 H x
  have hOO1 : ∀ x, OO O1 ι1 H x ↔ OO O ι HC x := fun x => by
    constructor
    · rintro (h | h)
      · exact h.1
      · obtain ⟨j, b, hb, hx⟩ := (hrngI x).1 h
        exact .inr ⟨b, hblt j b hb, hx⟩
    · intro h
      by_cases hr : rng ι1 H x
      · exact .inr hr
      · exact .inl ⟨h, hr⟩
  have hidx : Idx (ro e) ι ι1 HC H := fun b j blk hr hb => by
    have hj := ro_some hr
    obtain ⟨bc, bk, k1, k2, k3, k4, k5, _⟩ := hE.inn j b hj
    rw [hb] at k1; injection k1 with k1; subst k1
    exact ⟨bk, k2, k5, k4, hι1 j b hj⟩
  have hS1 : Sit ⟨w, rng ι1 H, H, ι1⟩ O1 ι1 H w := by
    refine ⟨fun j bk x h1 h2 => ⟨.inr ⟨j, (List.getElem?_eq_some_iff.1 h1).1, h2⟩, ?_⟩, fun j bk h1 h2 => ?_, fun i j x hi hj h1 h2 => ?_, Bel.refl .., fun x hx => ?_, fun x j hO hj hx => hO.2 ⟨j, hj, hx⟩, .refl ..⟩
    · obtain ⟨b, hb⟩ := hjlt j (List.getElem?_eq_some_iff.1 h1).1
      obtain ⟨bc, bk', k1, k2, k3⟩ := hE.inn j b hb
      rw [h1] at k2; injection k2 with k2; subst k2
      exact k3.br hOO1 hidx (hs.heap b bc x k1 (by rw [← hι1 j b hb]; exact h2)).2
    · obtain ⟨b, hb⟩ := hjlt j (List.getElem?_eq_some_iff.1 h1).1
      obtain ⟨bc, bk', k1, k2, k3, k4, k5, _⟩ := hE.inn j b hb
      rw [h1] at k2; injection k2 with k2; subst k2
      have := hs.empt b bc k1 (by rw [← hι1 j b hb]; exact h2)
      rw [this] at k5
      exact List.eq_nil_of_length_eq_zero k5
    · obtain ⟨b, hb⟩ := hjlt i hi
      obtain ⟨b', hb'⟩ := hjlt j hj
      rw [hι1 i b hb] at h1; rw [hι1 j b' hb'] at h2
      have := hs.inj b b' x (hblt i b hb) (hblt j b' hb') h1 h2
      subst this
      exact huniq i j b hb hb'
    · rcases hx.1 with h | ⟨b, hb, hx⟩
      · exact hs.old x h
      · exact hlt b x hb hx
  unfold Oper.wp
  rw [hrun, Oper.upon_enter]
  refine (g4 w O1 ι1 (c.args.map a.eval ++ arr) hS1 (by have := ha.len; simp only [List.length_append, List.length_map, Array.length_toList] at this; simp [hlen, ← this]) fun j x u hx hu => ?_).mono ?_
  · have hj : j < (c.args.toList.map ρ ++ caps).length := by rw [ha.len]; exact (List.getElem?_eq_some_iff.1 hx).1
    have h1 := List.getElem?_eq_getElem hj
    exact (ha.get j _ x h1 hx H w _ ι ι1 u hidx (hargs j _ u h1 hu)).lessO fun y hy => (hOO1 y).1 hy
  rintro ex w' ⟨v, ι2, rfl, hS2, hv2⟩
  -- back to the caller's numbers
  let ι3 : Nat → Option Nat := fun b => match ro e b with
    | some j => ι2 j
    | none => if b < HC.length then ι b else ι2 (H.length + (b - HC.length))
  have hroE : ∀ j b, e[j]? = some b → ro e b = some j := fun j b h => by
    cases hr : ro e b with
    | none =>
      unfold ro at hr
      rw [List.findIdx?_eq_none_iff] at hr
      have := hr b (List.mem_of_getElem? h)
      simp at this
    | some j' => rw [huniq j' j b (ro_some hr) h]
  have hroN : ∀ b, b ∉ e → ro e b = none := fun b h => by
    cases hr : ro e b with
    | none => rfl
    | some j => exact absurd (List.mem_of_getElem? (ro_some hr)) h
  have i3e : ∀ j b, e[j]? = some b → ι3 b = ι2 j := fun j b h => by simp only [ι3, hroE j b h]
  have i3s : ∀ b, b < HC.length → b ∉ e → ι3 b = ι b := fun b hb h => by simp only [ι3, hroN b h, hb, if_true]
  have hmem : ∀ b, b ∈ e → b < HC.length := fun b h => by
    obtain ⟨j, hj⟩ := List.getElem?_of_mem h
    exact hblt j b hj
  have i3n : ∀ k, ι3 (HC.length + k) = ι2 (H.length + k) := fun k => by
    simp only [ι3, hroN (HC.length + k) fun h => by have := hmem _ h; omega]
    rw [if_neg (by omega), Nat.add_sub_cancel_left]
  have hrb : ∀ j, j < H'.length → ∃ b, rb e HC.length j = some b ∧ ι3 b = ι2 j ∧ b < HC'.length := fun j hj => by
    unfold rb
    by_cases h : j < e.length
    · rw [if_pos h, List.getElem?_eq_getElem h]
      have h1 := List.getElem?_eq_getElem h
      exact ⟨_, rfl, i3e j _ h1, by have := hblt j _ h1; rw [hE.len2]; omega⟩
    · rw [if_neg h]
      refine ⟨_, rfl, ?_, ?_⟩
      · rw [i3n, hE.len]; congr 1; have := hE.len; omega
      · rw [hE.len2]; have := hE.len; omega
  have hidx3 : Idx (rb e HC.length) ι2 ι3 H' HC' := fun j b bk hr hb => by
    obtain ⟨bc, k1, k2, k3, k4, _⟩ := hE.out j b bk hr hb
    obtain ⟨b', h1, h2, _⟩ := hrb j (List.getElem?_eq_some_iff.1 hb).1
    rw [hr] at h1; injection h1 with h1; subst h1
    exact ⟨bc, k1, k4, k3, h2⟩
  -- every block of the caller is one that stayed, or one of the callee's
  have hwhat : ∀ b, b < HC'.length → (b < HC.length ∧ b ∉ e) ∨ ∃ j, j < H'.length ∧ rb e HC.length j = some b := fun b hb => by
    by_cases h : b < HC.length
    · by_cases hbe : b ∈ e
      · obtain ⟨j, hj⟩ := List.getElem?_of_mem hbe
        have hjl := (List.getElem?_eq_some_iff.1 hj).1
        exact .inr ⟨j, by have := hE.len; have := hE.le; omega, by unfold rb; rw [if_pos hjl]; exact hj⟩
      · exact .inl ⟨h, hbe⟩
    · have := hE.len; have := hE.len2; have := hE.le
      exact .inr ⟨H.length + (b - HC.length), by omega, by unfold rb; rw [if_neg (by omega)]; congr 1; omega⟩
  have hsz : w.heap.size ≤ w'.heap.size := hS2.below.size
  have hblkW : ∀ x, x < w.heap.size → ¬ rng ι1 H x → w'.heap[x]? = w.heap[x]? := fun x h1 h2 => hS2.below.block x h1 h2
  have hnew : ∀ j x, j < H'.length → ι2 j = some x → w.heap.size ≤ x ∨ rng ι1 H x := fun j x hj hx => (hS2.heap j _ x (List.getElem?_eq_getElem hj) hx).1
  have hstay : ∀ b x, b < HC.length → b ∉ e → ι b = some x → ¬ rng ι1 H x := fun b x hb hbe hx hr => by
    obtain ⟨j, b', hb', hx'⟩ := (hrngI x).1 hr
    have := hs.inj b b' x hb (hblt j b' hb') hx hx'
    subst this
    exact hbe (List.mem_of_getElem? hb')
  have hOO3 : ∀ x, OO O ι3 HC' x ↔ OO O1 ι2 H' x := fun x => by
    constructor
    · rintro (h | ⟨b, hb, hx⟩)
      · refine .inl ⟨.inl h, fun hr => ?_⟩
        obtain ⟨j, b, hb, hx⟩ := (hrngI x).1 hr
        exact hs.disj x b h (hblt j b hb) hx
      · rcases hwhat b hb with ⟨h1, h2⟩ | ⟨j, hj, hr⟩
        · rw [i3s b h1 h2] at hx
          exact .inl ⟨.inr ⟨b, h1, hx⟩, hstay b x h1 h2 hx⟩
        · obtain ⟨b', k1, k2, _⟩ := hrb j hj
          rw [hr] at k1; injection k1 with k1; subst k1
          exact .inr ⟨j, hj, by rw [← k2]; exact hx⟩
    · rintro (⟨h, hr⟩ | ⟨j, hj, hx⟩)
      · rcases h with h | ⟨b, hb, hx⟩
        · exact .inl h
        · have hbe : b ∉ e := fun hbe => by
            obtain ⟨j, hj⟩ := List.getElem?_of_mem hbe
            exact hr ((hrngI x).2 ⟨j, b, hj, hx⟩)
          exact .inr ⟨b, by rw [hE.len2]; omega, by rw [i3s b hb hbe]; exact hx⟩
      · obtain ⟨b, k1, k2, k3⟩ := hrb j hj
        exact .inr ⟨b, k3, by rw [k2]; exact hx⟩
  have g : Goes w (OO O ι HC) ι HC w' (OO O ι3 HC') ι3 HC' := by
    refine ⟨fun p u h hcell => ?_, fun p u h hcell h' => ?_, fun b blk h => ?_, fun b x blk blk' c1 ty fz h1 h2 h3 hi h => ?_⟩
    · have hl := heap_lt hcell
      rw [hblkW p hl fun hr => ?_]
      · exact hcell
      · obtain ⟨j, b, hb, hx⟩ := (hrngI _).1 hr
        exact h (.inr ⟨b, hblt j b hb, hx⟩)
    · have hl := heap_lt hcell
      rcases (hOO3 _).1 h' with h' | ⟨j, hj, hx⟩
      · exact h h'.1
      · rcases hnew j _ hj hx with h1 | h1
        · omega
        · obtain ⟨j', b, hb, hx'⟩ := (hrngI _).1 h1
          exact h (.inr ⟨b, hblt j' b hb, hx'⟩)
    · have hb := (List.getElem?_eq_some_iff.1 h).1
      by_cases hbe : b ∈ e
      · obtain ⟨j, hj⟩ := List.getElem?_of_mem hbe
        obtain ⟨bc, bk, k1, k2, k3, k4, k5, _⟩ := hE.inn j b hj
        rw [h] at k1; injection k1 with k1; subst k1
        obtain ⟨bk2, f1, f2, f3⟩ := hS2.hist.blk j bk k2
        have hr : rb e HC.length j = some b := by unfold rb; rw [if_pos (List.getElem?_eq_some_iff.1 hj).1]; exact hj
        obtain ⟨bc2, m1, m2, m3, m4, _⟩ := hE.out j b bk2 hr f1
        refine ⟨bc2, m1, by omega, fun he => ?_⟩
        obtain ⟨n1, n2⟩ := f3 (by omega)
        exact ⟨by rw [m3, n1, k4], by rw [i3e j b hj, n2]; exact hι1 j b hj⟩
      · exact ⟨blk, by rw [hE.stay b hb hbe]; exact h, Nat.le_refl _, fun _ => ⟨rfl, i3s b hb hbe⟩⟩
    · have hb := (List.getElem?_eq_some_iff.1 h1).1
      by_cases hbe : b ∈ e
      · obtain ⟨j, hj⟩ := List.getElem?_of_mem hbe
        obtain ⟨bc, bk, k1, k2, k3, k4, k5, _⟩ := hE.inn j b hj
        rw [h1] at k1; injection k1 with k1; subst k1
        obtain ⟨bk2, f1, f2, f3⟩ := hS2.hist.blk j bk k2
        have hr : rb e HC.length j = some b := by unfold rb; rw [if_pos (List.getElem?_eq_some_iff.1 hj).1]; exact hj
        obtain ⟨bc2, m1, m2, m3, m4, _⟩ := hE.out j b bk2 hr f1
        rw [h2] at m1; injection m1 with m1; subst m1
        exact hS2.hist.size j x bk bk2 c1 ty fz k2 f1 (by omega) ((hι1 j b hj).trans hi) h
      · exact ⟨c1, ty, fz, by rw [hblkW x (hlt b x hb hi) (hstay b x hb hbe hi)]; exact h, rfl⟩
  have hS3 : Sit w0 O ι3 HC' w' := by
    refine ⟨fun b bk x h1 h2 => ?_, fun b bk h1 h2 => ?_, fun b b' x hb hb' h1 h2 => ?_, ?_, fun x hx => Nat.lt_of_lt_of_le (hs.old x hx) hsz, fun x b hO hb hx => ?_, hs.hist.trans g.grow⟩
    · have hb := (List.getElem?_eq_some_iff.1 h1).1
      rcases hwhat b hb with ⟨k1, k2⟩ | ⟨j, hj, hr⟩
      · rw [hE.stay b k1 k2] at h1
        rw [i3s b k1 k2] at h2
        obtain ⟨m1, m2⟩ := hs.heap b bk x h1 h2
        exact ⟨m1, m2.mono g (hblkW x m2.lt (hstay b x k1 k2 h2))⟩
      · obtain ⟨b', k1, k2, _⟩ := hrb j hj
        rw [hr] at k1; injection k1 with k1; subst k1
        obtain ⟨bc, m1, m2⟩ := hE.out j b _ hr (List.getElem?_eq_getElem hj)
        rw [h1] at m1; injection m1 with m1; subst m1
        rw [k2] at h2
        obtain ⟨n1, n2⟩ := hS2.heap j _ x (List.getElem?_eq_getElem hj) h2
        refine ⟨?_, m2.br hOO3 hidx3 n2⟩
        rcases n1 with n1 | n1
        · exact .inl (Nat.le_trans hs.below.size n1)
        · obtain ⟨j', b', hb', hx'⟩ := (hrngI x).1 n1
          exact (hs.heap b' _ x (List.getElem?_eq_getElem (hblt j' b' hb')) hx').1
    · have hb := (List.getElem?_eq_some_iff.1 h1).1
      rcases hwhat b hb with ⟨k1, k2⟩ | ⟨j, hj, hr⟩
      · rw [hE.stay b k1 k2] at h1
        rw [i3s b k1 k2] at h2
        exact hs.empt b bk h1 h2
      · obtain ⟨b', k1, k2, _⟩ := hrb j hj
        rw [hr] at k1; injection k1 with k1; subst k1
        obtain ⟨bc, m1, m2, m3, m4, _⟩ := hE.out j b _ hr (List.getElem?_eq_getElem hj)
        rw [h1] at m1; injection m1 with m1; subst m1
        rw [k2] at h2
        have := hS2.empt j _ (List.getElem?_eq_getElem hj) h2
        rw [this] at m4
        exact List.eq_nil_of_length_eq_zero m4
    · rcases hwhat b hb with ⟨k1, k2⟩ | ⟨j, hj, hr⟩ <;> rcases hwhat b' hb' with ⟨k1', k2'⟩ | ⟨j', hj', hr'⟩
      · rw [i3s b k1 k2] at h1; rw [i3s b' k1' k2'] at h2
        exact hs.inj b b' x k1 k1' h1 h2
      · exfalso
        rw [i3s b k1 k2] at h1
        obtain ⟨b2, m1, m2, _⟩ := hrb j' hj'
        rw [hr'] at m1; injection m1 with m1; subst m1
        rw [m2] at h2
        rcases hnew j' x hj' h2 with n | n
        · have := hlt b x k1 h1; omega
        · exact hstay b x k1 k2 h1 n
      · exfalso
        rw [i3s b' k1' k2'] at h2
        obtain ⟨b2, m1, m2, _⟩ := hrb j hj
        rw [hr] at m1; injection m1 with m1; subst m1
        rw [m2] at h1
        rcases hnew j x hj h1 with n | n
        · have := hlt b' x k1' h2; omega
        · exact hstay b' x k1' k2' h2 n
      · obtain ⟨b2, m1, m2, _⟩ := hrb j hj
        rw [hr] at m1; injection m1 with m1; subst m1
        obtain ⟨b3, m1', m2', _⟩ := hrb j' hj'
        rw [hr'] at m1'; injection m1' with m1'; subst m1'
        rw [m2] at h1; rw [m2'] at h2
        have := hS2.inj j j' x hj hj' h1 h2
        subst this
        rw [hr] at hr'; injection hr' with hr'
    · refine hs.below.change hS2.below.os hS2.below.tape hS2.below.output hsz fun k hk hne => ?_
      by_cases hr : rng ι1 H k
      · obtain ⟨j, b, hb, hx⟩ := (hrngI k).1 hr
        exact (hs.heap b _ k (List.getElem?_eq_getElem (hblt j b hb)) hx).1
      · exact absurd (hblkW k hk hr) hne
    · rcases hwhat b hb with ⟨k1, k2⟩ | ⟨j, hj, hr⟩
      · rw [i3s b k1 k2] at hx; exact hs.disj x b hO k1 hx
      · obtain ⟨b', k1, k2, _⟩ := hrb j hj
        rw [hr] at k1; injection k1 with k1; subst k1
        rw [k2] at hx
        refine hS2.disj x j ⟨.inl hO, fun hr => ?_⟩ hj hx
        obtain ⟨j', b', hb', hx'⟩ := (hrngI x).1 hr
        exact hs.disj x b' hO (hblt j' b' hb') hx'
  exact hK v w' ι3 hS3 g ((hd HC' w' _ ι2 ι3 v hidx3 hv2).lessO fun y hy => (hOO3 y).1 hy)
end
end Go.Ab
namespace Go.Ab
open Go Go.RowKit

section
variable {P : Program} {n : Fr} {Q : Exit → ASt → Prop} {s : ASt}
end
section
variable {P : Program} {H : List ABlk} {ρ : Operand → AV}
theorem ql_eqnil_run {t yt : TypeId} {x y : Operand} {o : Oper} {A : Act} {w : World} {a : Option Addr} {l c : Nat} {b : Bool} (ho : o.op = .binOp .eql t x y yt) (hX : A.eval x = .slice a l c) (hY : A.eval y = .slice none 0 0)
    (he : (Op.equal t (.slice a l c) (.slice none 0 0)).run P w = .ok b w) : (execOp A.eval o).run P w = .ok (.value (.bool b)) w := by
  have hg : (eqGuard .eql t x y (.slice a l c) (.slice none 0 0)).run P w = .ok () w := by
    unfold eqGuard
    rfl
  simp only [execOp, ho, hX, hY, Sem.run_bind, hg, Result.andThen_ok, binOp, he, Sem.run_pure]
end

def PuBl (H : List ABlk) : Prop := ∀ blk ∈ H, ∀ e ∈ blk.es, ∀ c ∈ e.cells, Pu c
theorem CallE.new {HC H' : List ABlk} (hp : PuBl H') : CallE [] HC [] H' (HC ++ H') :=
  ⟨List.nodup_nil, rfl, fun j b h => by simp at h, Nat.zero_le _, by simp, fun b hb _ => List.getElem?_append_left hb, fun j c bk h h2 => by
    simp [rb] at h; subst h
    exact ⟨bk, by rw [List.getElem?_append_right (by omega), Nat.add_sub_cancel_left]; exact h2, .pu (hp bk (List.mem_of_getElem? h2))⟩⟩
def BlkPub (r : Nat → Option Nat) (H : List ABlk) (b b2 : ABlk) : Prop := b2.ty = b.ty ∧ b2.sz = b.sz ∧ b2.es.length = b.es.length ∧
  ∀ (i : Nat) (e e2 : AV), b.es[i]? = some e → b2.es[i]? = some e2 → e.cells.length = e2.cells.length ∧ ∀ (k : Nat) (c c2 : AV), e.cells[k]? = some c → e2.cells[k]? = some c2 → PubR r H c c2
theorem BlkPub.pu {r : Nat → Option Nat} {H : List ABlk} {b : ABlk} (h : ∀ e ∈ b.es, ∀ c ∈ e.cells, Pu c) : BlkPub r H b b :=
  ⟨rfl, rfl, rfl, fun i e e2 h1 h2 => by
    rw [h1] at h2; injection h2 with h2; subst h2
    exact ⟨rfl, fun k c c2 h3 h4 => by
      rw [h3] at h4; injection h4 with h4; subst h4
      exact .pu (h e (List.mem_of_getElem? h1) c (List.mem_of_getElem? h3))⟩⟩
def PubRL (r : Nat → Option Nat) (H : List ABlk) : List AV → List AV → Prop
  | [], [] => True
  | a :: l, b :: m => PubR r H a b ∧ PubRL r H l m
  | _, _ => False
theorem PubRL.len {r : Nat → Option Nat} {H : List ABlk} : ∀ {l m : List AV}, PubRL r H l m → l.length = m.length
  | [], [], _ => rfl
  | _ :: l, _ :: m, h => by simp [PubRL.len h.2]
theorem PubRL.get {r : Nat → Option Nat} {H : List ABlk} : ∀ {l m : List AV}, PubRL r H l m → ∀ (j : Nat) (a b : AV), l[j]? = some a → m[j]? = some b → PubR r H a b
  | _ :: l, _ :: m, h, 0, a, b, h1, h2 => by cases h1; cases h2; exact h.1
  | _ :: l, _ :: m, h, j + 1, a, b, h1, h2 => PubRL.get h.2 j a b h1 h2
theorem PubRL.pu {r : Nat → Option Nat} {H : List ABlk} : ∀ {cs : List AV}, (∀ c ∈ cs, Pu c) → PubRL r H cs cs
  | [], _ => trivial
  | c :: l, h => ⟨.pu (h c (by simp)), PubRL.pu fun x hx => h x (by simp [hx])⟩
theorem PubR.tup' {r : Nat → Option Nat} {H : List ABlk} {cs ds : List AV} (h : PubRL r H cs ds) : PubR r H (.tup cs) (.tup ds) := .tup h.len h.get
theorem PubR.agg' {r : Nat → Option Nat} {H : List ABlk} {cs ds : List AV} (h : PubRL r H cs ds) : PubR r H (.agg cs) (.agg ds) := .agg h.len h.get
theorem BlkPub.one {r : Nat → Option Nat} {H : List ABlk} {ty sz : Nat} {e e2 : AV} (h : PubRL r H e.cells e2.cells) : BlkPub r H ⟨ty, sz, [e]⟩ ⟨ty, sz, [e2]⟩ :=
  ⟨rfl, rfl, rfl, fun i x x2 h1 h2 => by
    cases i with
    | zero => simp at h1 h2; subst h1; subst h2; exact ⟨h.len, h.get⟩
    | succ i => simp at h1⟩
def SelB (r : Nat → Option Nat) (H : List ABlk) : List Nat → List ABlk → Prop
  | [], [] => True
  | b :: sel, b2 :: H' => (∃ bk, H[b]? = some bk ∧ BlkPub r H bk b2) ∧ SelB r H sel H'
  | _, _ => False
theorem SelB.len {r : Nat → Option Nat} {H : List ABlk} : ∀ {sel : List Nat} {H' : List ABlk}, SelB r H sel H' → sel.length = H'.length
  | [], [], _ => rfl
  | _ :: l, _ :: m, h => by simp [SelB.len h.2]
theorem SelB.get {r : Nat → Option Nat} {H : List ABlk} : ∀ {sel : List Nat} {H' : List ABlk}, SelB r H sel H' → ∀ (j b : Nat) (b2 : ABlk), sel[j]? = some b → H'[j]? = some b2 → ∃ bk, H[b]? = some bk ∧ BlkPub r H bk b2
  | _ :: l, _ :: m, h, 0, b, b2, h1, h2 => by cases h1; cases h2; exact h.1
  | _ :: l, _ :: m, h, j + 1, b, b2, h1, h2 => SelB.get h.2 j b b2 h1 h2
theorem ro_get {e : List Nat} (hn : e.Nodup) {j b : Nat} (h : e[j]? = some b) : ro e b = some j := by
  cases hr : ro e b with
  | none =>
    unfold ro at hr
    rw [List.findIdx?_eq_none_iff] at hr
    have := hr b (List.mem_of_getElem? h)
    simp at this
  | some j' =>
    have h2 := ro_some hr
    obtain ⟨h1l, h1e⟩ := List.getElem?_eq_some_iff.1 h
    obtain ⟨h2l, h2e⟩ := List.getElem?_eq_some_iff.1 h2
    rw [(List.getElem_inj hn).1 (h1e.trans h2e.symm)]
theorem Sel.of {m : Nat} {H H2 : List ABlk} (sel : List Nat) (hn : sel.Nodup) (hm : ∀ b, b < m → sel[b]? = some b) (hb : SelB (ro sel) H sel H2) : Sel m (ro sel) (fun j => sel.getD j 0) H H2 := by
  have hl := hb.len
  have hg : ∀ j, j < H2.length → ∃ b, sel[j]? = some b ∧ sel.getD j 0 = b := fun j hj => by
    have : j < sel.length := by omega
    exact ⟨sel[j], List.getElem?_eq_getElem this, by simp [List.getD_eq_getElem?_getD, this]⟩
  refine ⟨fun b h => ro_get hn (hm b h), fun j hj => ?_, fun b j hbl h => ?_, fun j bk b2 h1 h2 => ?_⟩
  · obtain ⟨b, h1, h2⟩ := hg j hj
    obtain ⟨bk, h3, _⟩ := hb.get j b _ h1 (List.getElem?_eq_getElem hj)
    rw [h2]
    exact ⟨(List.getElem?_eq_some_iff.1 h3).1, ro_get hn h1⟩
  · have h1 := ro_some h
    have hj := (List.getElem?_eq_some_iff.1 h1).1
    exact ⟨by rw [List.getD_eq_getElem?_getD, h1]; rfl, by omega⟩
  · have hj := (List.getElem?_eq_some_iff.1 h2).1
    obtain ⟨b, h3, h4⟩ := hg j hj
    obtain ⟨bk', h5, h6⟩ := hb.get j b b2 h3 h2
    simp only [h4] at h1
    rw [h1] at h5; injection h5 with h5; subst h5
    exact h6
theorem RetH.of {P : Program} {rs : List ResultVar} {n : Fr} {d : AV} {H' : List ABlk} {s : ASt} {vs : List AV} (sel : List Nat) (h : resVals P s rs = some vs) (hn : sel.Nodup) (hm : ∀ b, b < n.m → sel[b]? = some b) (hb : SelB (ro sel) s.H sel H') (hd : PubR (ro sel) s.H (packA vs) d) : RetH P rs n d H' s :=
  ⟨s, vs, _, _, .refl s, h, .of sel hn hm hb, hd⟩
theorem Wk.selB {n : Fr} {H H2 : List ABlk} {E E2 : Env} (sel : List Nat) (hn : sel.Nodup) (hm : ∀ b, b < n.m → sel[b]? = some b) (hb : SelB (ro sel) H sel H2) (h : ∀ p ∈ E2, PubR (ro sel) H (lk E p.1) p.2) : Wk n ⟨E, H⟩ ⟨E2, H2⟩ := Wk.sel (.of sel hn hm hb) h
def WkR (r : Nat → Option Nat) (H : List ABlk) (E : Env) : Env → Prop
  | [] => True
  | (t, v) :: l => PubR r H (lk E t) v ∧ WkR r H E l
theorem WkR.all {r : Nat → Option Nat} {H : List ABlk} {E : Env} : ∀ {E2 : Env}, WkR r H E E2 → ∀ p ∈ E2, PubR r H (lk E p.1) p.2
  | [], _, p, h => by cases h
  | (t, v) :: l, ⟨h1, h2⟩, p, h => by
    rcases List.mem_cons.1 h with rfl | h
    · exact h1
    · exact WkR.all h2 p h
theorem PubR.ownM {r : Nat → Option Nat} {α : Type} {H : List ABlk} {b n ty sz : Nat} {l : List α} {f : α → AV} (hk : r b = none) (h : H[b]? = some ⟨ty, sz, l.map f⟩) (hn : l.length = n) (hp : ∀ x ∈ l, ∀ c ∈ (f x).cells, Pu c) : PubR r H (.own b n 0 n) (.lst (l.map f)) :=
  .lst hk h (by simpa using hn) (by omega) (by simpa using hn) fun i e d hi he hd => by
    simp only [Nat.zero_add] at he
    rw [he] at hd; injection hd with hd; subst hd
    refine ⟨rfl, fun j c c' hc hc' => ?_⟩
    rw [hc] at hc'; injection hc' with hc'; subst hc'
    rw [List.getElem?_map, Option.map_eq_some_iff] at he
    obtain ⟨x, hx, rfl⟩ := he
    exact .pu (hp x (List.mem_of_getElem? hx) c (List.mem_of_getElem? hc))
abbrev y3 := @retHQ_n
abbrev y4 := @retHQ_r
end Go.Ab
namespace Go.Ab
open Go Go.RowKit
section
variable {P : Program} {H : List ABlk} {ρ : Operand → AV}
end
end Go.Ab
namespace Go.Ab
open Go Go.RowKit
section
variable {P : Program} {H : List ABlk} {ρ : Operand → AV}
end
end Go.Ab
namespace Go.Ab
open Go Go.RowKit

section
variable {P : Program} {H : List ABlk} {ρ : Operand → AV}
end
end Go.Ab
namespace Go.Ab
open Go Go.RowKit

abbrev AV.u8 (c : UInt8) : AV := .base (.int .u8 c.toNat)

section
variable {P : Program} {w w' : World} {w0 : Base} {O : Nat → Prop} {ι : Nat → Option Nat} {H : List ABlk} {u : Value}

theorem append_exec2 {ρ : Operand → AV} {a : Act} {o : Oper} {s x : Operand} {t ts : TypeId} {v' : Value} (ho : o.op = .call { callee := .builtin .append, args := #[s, x], argTypes := #[t, ts] })
    (hr : (Builtin.append_ #[t, ts] o.type #[a.eval s, a.eval x]).run P w = .ok v' w') : (execOp a.eval o).run P w = .ok (.value v') w' := by
  simp only [execOp, ho, resolve, invoke, builtin, Sem.run_bind, Sem.run_pure, Result.andThen_ok, List.map_toArray, List.map_cons, List.map_nil, hr]

theorem ql_addStr {ρ : Operand → AV} {t yt : TypeId} {x y : Operand} {a b : ByteArray} (hx : ρ x = .base (.string a)) (hy : ρ y = .base (.string b)) (h : a.size + b.size ≤ 4611686018427387904) : QL P H ρ (.binOp .add t x y yt) (.base (.string (a ++ b))) := by
  refine QL.of_run fun w0 O ι A w hs hv o ho => ?_
  have h1 := hv x (by simp [Op.operands]); rw [hx] at h1
  have h1 := h1.base_inv
  have h2 := hv y (by simp [Op.operands]); rw [hy] at h2
  have h2 := h2.base_inv
  have hg : (eqGuard .add t x y (.string a) (.string b)).run P w = .ok () w := eqGuard_run (by simp) (by simp)
  have : ¬ (((a.size + b.size : Nat) : Int) > IntKind.i64.max) := by
    simp only [IntKind.max, IntKind.signed, IntKind.bits]; simp; omega
  refine ⟨.string (a ++ b), ?_, .base _⟩
  simp only [execOp, ho, h1, h2, Sem.run_bind, hg, Result.andThen_ok, binOp, Op.stringOp, if_neg this, Sem.run_pure]
end
end Go.Ab
namespace Go.Ab
open Go Go.RowKit
section
variable {P : Program} {H : List ABlk} {ρ : Operand → AV}
theorem Lend.view {b tot i off n : Nat} {blk : ABlk} {e : AV} {ds : List AV} (h1 : H[b]? = some blk) (ht : blk.es.length = tot) (he : blk.es[i]? = some e) (hl : ds.length = n)
    (hd : ∀ (j : Nat) (d : AV), ds[j]? = some d → d.cells = [d] ∧ ∃ c, e.cells[off + j]? = some c ∧ Lend H c d) : Lend H (.view b tot i off n) (.lst ds) := fun w0 w O ι u hs hu => by
  cases hu with
  | staleView b tot i off n blk' a m c h1' h2 => rw [h1] at h1'; cases h1'; omega
  | view b tot i off n blk' x cap h1' ht' hi hcx hcap hmax =>
    rw [h1] at h1'; cases h1'
    obtain ⟨hx0, c0, hc, hcs, hsz, hel⟩ := hs.heap b blk x h1 hi
    have hat : ∀ (j k : Nat) (d c : AV), ds[j]? = some d → d.cells[k]? = some c → ∃ u, w.cell? ⟨x, i * blk.sz + off + j * 1 + k, none⟩ = some u ∧ VR w (fun _ => False) noB [] c u := by
      intro j k d c hdj hck
      obtain ⟨f1, c2, f2, f3⟩ := hd j d hdj
      rw [f1] at hck
      cases k with
      | succ k => simp at hck
      | zero =>
        simp at hck; subst hck
        obtain ⟨u, hu, hv⟩ := hel i (off + j) e c2 he f2
        obtain ⟨ty3, fz3, hc⟩ := rowAt_el hc hcx
        refine ⟨u, ?_, f3 w0 w O ι u hs hv⟩
        rw [Nat.mul_one, Nat.add_zero, Nat.add_assoc]
        simpa [World.cell?, hc] using hu
    exact .lst ds _ n cap 1 (fun j k => (w.cell? ⟨x, i * blk.sz + off + j * 1 + k, none⟩).getD undef) (by omega) (by omega) (by omega)
      (fun d hd' => by obtain ⟨j, hj, rfl⟩ := List.mem_iff_getElem.1 hd'; rw [(hd j _ (List.getElem?_eq_getElem hj)).1]; rfl) (fun _ _ => rfl)
      (fun j k d c hdi hcj => by obtain ⟨u, hu, _⟩ := hat j k d c hdi hcj; exact ⟨fun h => h, by simp only [hu, Option.getD_some]⟩)
      (fun j k d c hdi hcj => by obtain ⟨u, hu, hv⟩ := hat j k d c hdi hcj; simpa only [hu, Option.getD_some] using hv)
end
end Go.Ab
namespace Go.Ab
open Go Go.RowKit
end Go.Ab
