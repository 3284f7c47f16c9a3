/- Part of the proof. -/
import Derived.Test.YtjfahhbobiiphaaYU
import Derived.Test.YtjfahhbobiiphaaAbI
import Derived.Test.YtjfahhbobiiphaaYT
set_option linter.unusedSimpArgs false
set_option linter.unusedVariables false
set_option maxHeartbeats 4000000
namespace Go.Ab
open Go Go.Ab Go.Proofs Go.Ab.Ty

abbrev mnB (l : List Nat) : ABlk := ⟨3, 1, l.map iN⟩
theorem keyB_iff {L : List ByteArray} {i j : Nat} : keyB L i = keyB L j ↔ ∀ S ∈ L, (isIn S (UInt8.ofNat (32 + i)) ↔ isIn S (UInt8.ofNat (32 + j))) :=
  ⟨fun h => keyB_get h, fun h => by
    unfold keyB
    refine List.map_congr_left fun S hS => ?_
    unfold kb
    by_cases h1 : isIn S (UInt8.ofNat (32 + i))
    · rw [if_pos h1, if_pos ((h S hS).1 h1)]
    · rw [if_neg h1, if_neg (fun h2 => h1 ((h S hS).2 h2))]⟩
theorem bu_nat {i : Nat} (h : i ≤ 95) : ((UInt8.ofNat (32 + i)).toNat : Int) = 32 + i := by
  rw [UInt8.toNat_ofNat']
  omega
open Classical in
theorem kinds_ok (L : List ByteArray) (hL : L.length ≤ 100000) (hs : ∀ S ∈ L, S.size ≤ maxLen) : Fn Try.prog 84 [.lst (L.map str)] (.tup [.lst ((fsN (keyB L) 95).map bu), nL (mnK (keyB L) 95)]) := by
  have hhas := fun (S : ByteArray) (h : S ∈ L) (c : UInt8) => has_ok (hs S h) c
  generalize hK : keyB L = K at *
  refine Fn.intro' [(0, .lst (L.map str))] 1 69 Try.func84 (by kernel_rfl) rfl rfl rfl rfl rfl ?_
  have hKe : ∀ i j, K i = K j ↔ ∀ S ∈ L, (isIn S (UInt8.ofNat (32 + i)) ↔ isIn S (UInt8.ofNat (32 + j))) := fun i j => by rw [← hK]; exact keyB_iff
  clear hK
  refine goA ?_
  refine AWp.weaken (Wk.nil (E2 := [(0, .lst (L.map str)), (4, .own 0 0 0 0), (5, .base (.slice none 0 0)), (6, .base (.int .u8 32))]) 5 1 (by intro p hp; simp only [List.mem_cons, List.not_mem_nil, or_false] at hp; rcases hp with rfl | rfl | rfl | rfl; exact .inl (Le.refl _); exact .inr ⟨rfl, rfl⟩; exact .inl (Le.refl _); exact .inl (Le.refl _))) ?_
  refine AWp.weaken (Wk.nil (E2 := [(0, .lst (L.map str)), (4, .own 0 0 0 0), (5, .own 1 0 0 0), (6, .base (.int .u8 32))]) 3 1 (by intro p hp; simp only [List.mem_cons, List.not_mem_nil, or_false] at hp; rcases hp with rfl | rfl | rfl | rfl; exact .inl (Le.refl _); exact .inl (Le.refl _); exact .inr ⟨rfl, rfl⟩; exact .inl (Le.refl _))) ?_
  refine AWp.loop (J := fun i : Nat => i ≤ 95) (fun i => ⟨[(0, .lst (L.map str)), (4, .own 0 (fsN K i).length 0 (fsN K i).length), (5, .own 1 (mnK K i).length 0 (mnK K i).length), (6, bu i)], [fsB (fsN K i), mnB (mnK K i)]⟩) (fun i => 95 - i) 0 (Nat.zero_le _) .wf ?_
  intro i hi
  have hbi := bu_nat hi
  have hfl := fsN_len K i
  have hfx := fsN_lt K i
  have hml := mnK_len K i
  have hnew := mnK_new K (i := i)
  have hold := mnK_old K (i := i)
  have hgo := grN_old K i
  have hgn := grN_new K i
  have hgq := fun x (hx : x < (fsN K i).length) h => grN_eq K hx h
  have hbw : i < 95 → IntKind.wrap .u8 (((UInt8.ofNat (32 + i)).toNat : Int) + 1) = ((UInt8.ofNat (32 + (i + 1))).toNat : Int) := fun h => by
    rw [hbi, bu_nat (i := i + 1) (by omega)]
    simp only [IntKind.wrap, IntKind.signed, IntKind.bits]
    simp
    omega
  have hfs1 : K i ∈ (fsN K i).map K → fsN K (i + 1) = fsN K i := fun h => by rw [fsN, if_pos h]
  have hfs2 : ¬ K i ∈ (fsN K i).map K → fsN K (i + 1) = fsN K i ++ [i] := fun h => by rw [fsN, if_neg h]
  have hmg := fun x (h : x < (fsN K i).length) => mnK_get K h
  have hcl := fun x => cnK_le K i x
  generalize hFe : fsN K i = F at *
  generalize hMe : mnK K i = M at *
  refine goD ?_
  refine ifA (fun hc => ?_) (fun hc => ?_)
  · have hc := of_decide_eq_true hc
    rw [hbi] at hc
    have hi2 : i < 95 := by omega
    refine goD ?_
    refine AWp.loop (X := Nat × Int) (J := fun p => p.1 ≤ F.length ∧ ((p.2 = -1 ∧ ∀ x (h : x < F.length), x < p.1 → K F[x] ≠ K i) ∨ ∃ x, ∃ h : x < F.length, p.2 = x ∧ K F[x] = K i)) (fun p => ⟨[(0, .lst (L.map str)), (4, .own 0 F.length 0 F.length), (5, .own 1 M.length 0 M.length), (6, bu i), (7, .int p.2), (8, .int p.1)], [fsB F, mnB M]⟩) (fun p => F.length - p.1) (0, -1) ⟨Nat.zero_le _, .inl ⟨rfl, fun x h h' => by omega⟩⟩ .wf ?_
    rintro ⟨k, e⟩ ⟨hk, hke⟩
    simp only at hk hke ⊢
    refine goA ?_
    refine ifA (fun hd => ?_) (fun hd => ?_)
    · have hd : k < F.length ∧ e < 0 := by
        simp at hd
        omega
      obtain ⟨hk2, he⟩ := hd
      have hke : ∀ x (h : x < F.length), x < k → K F[x] ≠ K i := by
        rcases hke with h | ⟨x, _, h, _⟩
        · exact h.2
        · omega
      have hF := hfx F[k] (List.getElem_mem hk2)
      have hnF : nth default F (k : Int) = F[k] := nth_eq hk2
      have hKk := hKe F[k] i
      rw [show bu i = AV.u8 (UInt8.ofNat (32 + i)) from rfl]
      generalize UInt8.ofNat (32 + i) = c at *
      obtain ⟨P, hP⟩ : ∃ P : Nat → Prop, P = fun j => ∀ S ∈ L.take j, (isIn S c ↔ isIn S (UInt8.ofNat (32 + F[k]))) := ⟨_, rfl⟩
      have hP0 : P 0 := by rw [hP]; simp
      have hPs : ∀ j (h : j < L.length), P (j + 1) ↔ (P j ∧ (isIn L[j] c ↔ isIn L[j] (UInt8.ofNat (32 + F[k])))) := fun j h => by
        rw [hP]
        simp only [List.take_succ_eq_append_getElem h, List.mem_append, List.mem_singleton]
        constructor
        · intro h2; exact ⟨fun S hS => h2 S (.inl hS), h2 _ (.inr rfl)⟩
        · rintro ⟨h2, h3⟩ S (hS | rfl)
          · exact h2 S hS
          · exact h3
      have hPe : P L.length ↔ K F[k] = K i := by
        rw [hP, hKk]
        simp only [List.take_length]
        exact ⟨fun h S hS => (h S hS).symm, fun h S hS => (h S hS).symm⟩
      clear hP
      generalize hfk : F[k] = f at *
      refine goA ?_
      refine AWp.loop (J := fun j : Nat => j ≤ L.length) (fun j => ⟨[(0, .lst (L.map str)), (4, .own 0 F.length 0 F.length), (5, .own 1 M.length 0 M.length), (6, AV.u8 c), (7, .int e), (8, .int k), (9, .bool (decide (P j))), (10, .int j)], [fsB F, mnB M]⟩) (fun j => L.length - j) 0 (Nat.zero_le _) (by rw [decide_eq_true hP0]; exact .wf) ?_
      intro j hj
      have hms : (L.map str).length = L.length := List.length_map _
      refine goA ?_
      refine ifA (fun hd2 => ?_) (fun hd2 => ?_)
      · have hd2 := of_decide_eq_true hd2
        have hj2 : j < L.length := by omega
        have hPs := hPs j hj2
        have hnL : nth default L (j : Int) = L[j] := nth_eq hj2
        have i1 := hhas L[j] (List.getElem_mem hj2) c
        have i2 := hhas L[j] (List.getElem_mem hj2) (UInt8.ofNat (32 + f))
        refine goA ?_
        refine drA (k := 19) follows (hr := ?_)
        refine goA ?_
        refine gqA (h := fun hg => ql_idxI (l := L) (by simp +decide only [go_sem] <;> rfl) (by simp +decide only [go_sem] <;> rfl) Try.underlying50 (by omega) (by simp; omega) (by kernel_rfl)) (hr := ?_)
        rw [hnL]
        refine goA ?_
        refine gcallA (i := fun hg => i1) (hr := ?_)
        refine goA ?_
        refine gqA (h := fun hg => ql_idxI (l := L) (by simp +decide only [go_sem] <;> rfl) (by simp +decide only [go_sem] <;> rfl) Try.underlying50 (by omega) (by simp; omega) (by kernel_rfl)) (hr := ?_)
        rw [hnL]
        refine goA ?_
        refine gqA (h := fun hg => ql_indexAddr_own (by simp +decide only [go_sem] <;> rfl) (by simp +decide only [go_sem] <;> rfl) Try.underlying32 (by rfl) (by simp) (by omega) (by omega) (by kernel_rfl)) (hr := ?_)
        refine gqA (h := fun hg => qw (l := F) (f := bu) (v := bu f) (default : Nat) (k : Int) (by simp +decide only [go_sem] <;> rfl) rfl (by simp) ⟨rfl, by omega⟩ (by rw [hnF, agg5, sz5]; rfl)) (hr := ?_)
        refine goA ?_
        refine gcallA (i := fun hg => i2) (hr := ?_)
        refine goA ?_
        rw [wrap_succ (by omega)]
        refine ⟨j + 1, by omega, by omega, ?_⟩
        have hdc : (bif decide (P j) then decide (decide (isIn L[j] c) = decide (isIn L[j] (UInt8.ofNat (32 + f)))) else false) = decide (P (j + 1)) := by
          rw [Bool.eq_iff_iff]
          simp only [decide_eq_true_eq, hPs]
          by_cases hp : P j <;> simp [hp]
        rw [← hdc]
        exact .wf
      · have hd2 := of_decide_eq_false hd2
        obtain rfl : j = L.length := by omega
        refine goA ?_
        refine ifA (fun hm => ?_) (fun hm => ?_)
        · have hm := hPe.1 (of_decide_eq_true hm)
          refine goA ?_
          rw [wrap_succ (by omega)]
          exact ⟨(k + 1, k), ⟨by simp only; omega, .inr ⟨k, hk2, rfl, by rw [hfk]; exact hm⟩⟩, by simp only; omega, .wf⟩
        · have hm := fun h => of_decide_eq_false hm (hPe.2 h)
          refine goA ?_
          rw [wrap_succ (by omega)]
          refine ⟨(k + 1, e), ⟨by simp only; omega, .inl ⟨by omega, fun x h h' => ?_⟩⟩, by simp only; omega, .wf⟩
          rcases Nat.lt_or_ge x k with hx | hx
          · exact hke x h hx
          · obtain rfl : x = k := by simp only at h'; omega
            rw [hfk]; exact hm
    · have hcase : (e = -1 ∧ ¬ K i ∈ F.map K) ∨ ∃ x, ∃ h : x < F.length, e = x ∧ K F[x] = K i := by
        rcases hke with ⟨h1, h2⟩ | h
        · left
          refine ⟨h1, fun h => ?_⟩
          obtain ⟨y, hy, hyk⟩ := List.mem_map.1 h
          obtain ⟨x, hx, rfl⟩ := List.getElem_of_mem hy
          have hkF : F.length ≤ k := by
            subst h1
            simp at hd
            omega
          exact h2 x hx (by omega) hyk
        · exact .inr h
      clear hke hd
      have hcc := hcl
      rcases hcase with ⟨rfl, hni⟩ | ⟨x, hx, rfl, hxk⟩
      · refine goA ?_
        refine ift_ ?_
        refine goA ?_
        refine ARun.q1 rfl rfl (ql_buildSlice (es := [bu i]) (by decide) Try.underlying32 sz5 (by kernel_rfl) (by decide) (by simp +decide only [List.map, go_sem] <;> rfl) (by simp +decide only [List.map, go_sem] <;> rfl) rfl) ?_
        refine ARun.p1 rfl rfl (pl_append (b := 0) (tot := F.length) (es := [bu i]) (by simp +decide only [go_sem] <;> rfl) (by simp +decide only [go_sem] <;> rfl) rfl (by simp) Try.underlying32 el5 rfl rfl (by simp) (fun e he => by rw [List.mem_singleton] at he; subst he; exact ⟨rfl, rfl⟩) (by simp; omega) (by simp; omega)) ?_
        rw [show F.map bu ++ [bu i] = (F ++ [i]).map bu by rw [List.map_append]; rfl]
        refine goA ?_
        refine ARun.q1 rfl rfl (ql_buildSlice (es := [.int 1]) (by decide) Try.underlying107 sz3 (by kernel_rfl) (by decide) (by simp +decide only [List.map, go_sem] <;> rfl) (by simp +decide only [List.map, go_sem] <;> rfl) rfl) ?_
        refine ARun.p1 rfl rfl (pl_append (b := 1) (tot := M.length) (es := [.int 1]) (by simp +decide only [go_sem] <;> rfl) (by simp +decide only [go_sem] <;> rfl) rfl (by simp) Try.underlying107 el3 rfl rfl (by simp) (fun e he => by rw [List.mem_singleton] at he; subst he; exact ⟨rfl, rfl⟩) (by simp; omega) (by simp; omega)) ?_
        rw [show M.map iN ++ [.int 1] = (M ++ [1]).map iN by rw [List.map_append]; rfl]
        refine goA ?_
        rw [hbw hi2]
        refine ⟨i + 1, by omega, by omega, ?_⟩
        simp only [hfs2 hni, hnew hni, List.length_append, List.length_cons, List.length_nil]
        exact .wf
      · refine goA ?_
        refine iff_ (b := decide ((x : Int) < 0)) ?_ (by rw [decide_eq_false_iff_not]; omega)
        refine goA ?_
        have hmem : K i ∈ F.map K := List.mem_map.2 ⟨F[x], List.getElem_mem hx, hxk⟩
        have hgx : grN K i = x := hgq x hx hxk
        have hmx := hmg x hx
        have hnM : nth default M (x : Int) = cnK K i x := by
          rw [nth_eq (by omega : x < M.length)]
          exact (List.getElem?_eq_some_iff.1 hmx).2
        have hold := hold hmem
        rw [hgx] at hold
        have hcc := hcc x
        refine ARun.q1 rfl rfl (ql_indexAddr_own (by simp +decide only [go_sem] <;> rfl) (by simp +decide only [go_sem] <;> rfl) Try.underlying107 (by rfl) (by simp) (by omega) (by omega) (by kernel_rfl)) ?_
        refine ARun.q1 rfl rfl (qw (l := M) (f := iN) (v := iN (cnK K i x)) (default : Nat) (x : Int) (by simp +decide only [go_sem] <;> rfl) rfl (by simp) ⟨rfl, by omega⟩ (by rw [hnM, agg3, sz3]; rfl)) ?_
        generalize cnK K i x = cx at *
        refine rcA ?_
        rw [wrap_succ (by omega)]
        refine ARun.p1 rfl rfl (pl_store_own (b := 1) (tot := M.length) (ty := 3) (sz := 1) (l := M) (f := iN) (i := x) (cx + 1) (by simp +decide only [go_sem] <;> simp) (by simp +decide only [go_sem] <;> rfl) rfl rfl (by omega) sz3 rfl rfl) ?_
        rw [← hold]
        refine goA ?_
        rw [hbw hi2]
        refine ⟨i + 1, by omega, by omega, ?_⟩
        have hl2 : (mnK K (i + 1)).length = M.length := by rw [hold, List.length_set]
        simp only [hfs1 hmem, hl2]
        exact .wf
  · have hc := of_decide_eq_false hc
    rw [hbi] at hc
    obtain rfl : i = 95 := by omega
    rw [hFe, hMe]
    refine goA ?_
    exact Ret.pub (vs := [.own 0 F.length 0 F.length, .own 1 M.length 0 M.length]) (by kernel_rfl) (PubR.tup' (show PubRL _ _ [_, _] [_, _] from ⟨PubR.ownM (f := bu) (l := F) (pre_ge (Nat.zero_le _)) rfl rfl (fun x _ c hc => by simp only [AV.cells, List.mem_singleton] at hc; subst hc; exact .base _), PubR.ownM (f := iN) (l := M) (pre_ge (Nat.zero_le _)) rfl rfl (fun x _ c hc => by simp only [AV.cells, List.mem_singleton] at hc; subst hc; exact .base _), trivial⟩))
end Go.Ab
set_option maxHeartbeats 4000000
namespace Go.Ab
open Go Go.Ab Go.Proofs Go.Ab.Ty

def kyS (s : List Bool) : List UInt8 := s.map fun b => if b then 1 else 0
theorem kyS_len (s : List Bool) : (kyS s).length = s.length := by simp [kyS]
theorem kyS_inj : ∀ {a b : List Bool}, kyS a = kyS b → a = b
  | [], [], _ => rfl
  | [], b :: l, h => by simp [kyS] at h
  | b :: l, [], h => by simp [kyS] at h
  | a :: l, b :: m, h => by
    unfold kyS at h
    rw [List.map_cons, List.map_cons] at h
    injection h with h1 h2
    rw [kyS_inj (a := l) (b := m) h2]
    cases a <;> cases b <;> simp_all
def mixS (n : Nat) (D : List UInt8) (j : Nat) : List UInt8 := (List.range n).map fun i => if i < j then D.getD i 0 else 0
theorem mixS_len (n : Nat) (D : List UInt8) (j : Nat) : (mixS n D j).length = n := by simp [mixS]
theorem mixS_set (n : Nat) (D : List UInt8) (j : Nat) (h : j < n) : (mixS n D j).set j (D.getD j 0) = mixS n D (j + 1) := by
  refine List.ext_getElem (by simp [mixS]) fun i h1 h2 => ?_
  simp only [mixS, List.getElem_set, List.getElem_map, List.getElem_range]
  by_cases e : j = i
  · subst e; simp
  · rw [if_neg e]
    by_cases h3 : i < j
    · rw [if_pos h3, if_pos (by omega)]
    · rw [if_neg h3, if_neg (by omega)]
theorem mixS_skip (n : Nat) (D : List UInt8) (j : Nat) (h : D.getD j 0 = 0) : mixS n D j = mixS n D (j + 1) := by
  refine List.ext_getElem (by simp [mixS]) fun i h1 h2 => ?_
  simp only [mixS, List.getElem_map, List.getElem_range]
  by_cases h3 : i < j
  · rw [if_pos h3, if_pos (by omega)]
  · by_cases e : i = j
    · subst e; rw [if_neg h3, if_pos (by omega), h]
    · rw [if_neg h3, if_neg (by omega)]
theorem mixS_all (n : Nat) (D : List UInt8) (h : D.length = n) : mixS n D n = D := by
  subst h
  refine List.ext_getElem (by simp [mixS]) fun i h1 h2 => ?_
  simp only [mixS, List.getElem_map, List.getElem_range]
  rw [if_pos h2, List.getD_eq_getElem?_getD, List.getElem?_eq_getElem h2]; rfl
theorem mixS_0 (n : Nat) (D : List UInt8) : (mixS n D 0).map AV.u8 = List.replicate n (.base (.int .u8 0)) := by
  refine List.ext_getElem (by simp [mixS]) fun i h1 h2 => ?_
  simp [mixS]
theorem key_ok (s : List Bool) (hl : s.length ≤ 100000) : Fn Try.prog 141 [lB s] (str (bsL (kyS s))) := by
  refine Fn.intro' [(0, lB s)] 1 23 Try.func141 (by kernel_rfl) rfl rfl rfl rfl rfl ?_
  have hml : (s.map AV.bool).length = s.length := List.length_map _
  refine goB ?_
  refine ARun.p1 rfl rfl (pl_make (by simp +decide only [go_sem] <;> rfl) (by simp +decide only [go_sem] <;> rfl) Try.underlying32 el5 zero5 rfl (by omega) (by omega) (by omega) (by omega)) ?_
  rw [show (List.replicate ((s.length : Int)).toNat (AV.base (.int .u8 0))) = (mixS s.length (kyS s) 0).map AV.u8 by rw [mixS_0]; simp]
  refine goB ?_
  refine AWp.loop (J := fun j : Nat => j ≤ s.length) (fun j => ⟨[(0, lB s), (3, .own 0 s.length 0 s.length), (4, .int j)], [⟨5, 1, (mixS s.length (kyS s) j).map AV.u8⟩]⟩) (fun j => s.length - j) 0 (Nat.zero_le _) .wf ?_
  intro j hj
  have hmxl := mixS_len s.length (kyS s) j
  refine goB ?_
  refine ifA (fun hc => ?_) (fun hc => ?_)
  · have hc := of_decide_eq_true hc
    have hj2 : j < s.length := by omega
    have hkg : (kyS s).getD j 0 = if s[j] then 1 else 0 := by
      unfold kyS; rw [List.getD_eq_getElem?_getD, List.getElem?_map, List.getElem?_eq_getElem hj2]; rfl
    have hns : nth default s (j : Int) = s[j] := nth_eq hj2
    refine goB ?_
    rw [hns]
    cases hb : s[j] with
    | true =>
      rw [hb] at hkg
      refine ift_ ?_
      refine goB ?_
      refine ARun.p1 rfl rfl (pl_store_own (b := 0) (tot := s.length) (i := j) (ty := 5) (sz := 1) (l := mixS s.length (kyS s) j) (f := AV.u8) ((kyS s).getD j 0) (by simp +decide only [go_sem] <;> simp) (by rw [hkg]; rfl) rfl (mixS_len _ _ _) (by rw [mixS_len]; exact hj2) sz5 rfl rfl) ?_
      rw [mixS_set _ _ _ hj2]
      refine goB ?_
      rw [wrap_succ (by omega)]
      exact ⟨j + 1, hj2, by omega, .wf⟩
    | false =>
      rw [hb] at hkg
      refine iff_ ?_
      refine goB ?_
      rw [wrap_succ (by omega), mixS_skip _ _ _ hkg]
      exact ⟨j + 1, hj2, by omega, .wf⟩
  have hc := of_decide_eq_false hc
  obtain rfl : j = s.length := by omega
  rw [mixS_all _ _ (kyS_len s)]
  refine goB ?_
  refine ARun.q1 rfl rfl (ql_bytesStr rfl rfl (by simp [kyS_len]) Try.underlying32 Try.underlying5 Try.underlying9) ?_
  refine goB ?_
  exact Ret.data rfl rfl (.base _)
theorem toL_eq7 (a b : ByteArray) : (a.toList == b.toList) = decide (a = b) := by
  rw [ByteArray.toList_eq, ByteArray.toList_eq, Bool.eq_iff_iff, beq_iff_eq, decide_eq_true_iff]
  constructor
  · intro h
    cases a; cases b
    simp only at h
    rename_i x y
    cases x; cases y
    simp only at h
    rw [h]
  · intro h; rw [h]
theorem idxOf_first {β : Type} [DecidableEq β] {x : β} : ∀ {l : List β} {j : Nat} (h : j < l.length), l[j] = x → (∀ i (h : i < l.length), i < j → l[i] ≠ x) → l.idxOf x = j
  | y :: l, 0, h, he, _ => by
    simp only [List.getElem_cons_zero] at he
    subst he; simp
  | y :: l, j + 1, h, he, hn => by
    have h0 : y ≠ x := hn 0 (by simp) (by omega)
    rw [List.idxOf_cons, beq_eq_false_iff_ne.2 h0]
    simp only [cond_false]
    rw [idxOf_first (l := l) (j := j) (by simpa using h) (by simpa using he) fun i hi hij => by have := hn (i + 1) (by simpa using hi) (by omega); rwa [List.getElem_cons_succ] at this]
theorem has0_ok {β : Type} [DecidableEq β] (key : β → ByteArray) (l : List β) (x : β) (hk : ∀ y ∈ l, key y = key x → y = x) (hl : l.length ≤ 4611686018427387904) : Fn Try.prog 142 [.lst (l.map fun y => str (key y)), str (key x)] (.int (if x ∈ l then ((l.idxOf x : Nat) : Int) else -1)) := by
  refine Fn.intro' [(0, .lst (l.map fun y => str (key y))), (1, str (key x))] 2 19 Try.func142 (by kernel_rfl) rfl rfl rfl rfl rfl ?_
  have hml : (l.map fun y => str (key y)).length = l.length := List.length_map _
  refine goB ?_
  refine AWp.loop (J := fun j : Nat => j ≤ l.length ∧ ∀ i (h : i < l.length), i < j → l[i] ≠ x) (fun j => ⟨[(0, .lst (l.map fun y => str (key y))), (1, str (key x)), (5, .int j)], []⟩) (fun j => l.length - j) 0 ⟨Nat.zero_le _, fun x h h' => by omega⟩ .wf ?_
  rintro j ⟨hj, hne⟩
  refine goB ?_
  refine ifA (fun hc => ?_) (fun hc => ?_)
  · have hc := of_decide_eq_true hc
    have hj2 : j < l.length := by omega
    refine goA ?_
    refine ARun.q1 rfl rfl (ql_indexAddr_lst (by simp +decide only [go_sem] <;> rfl) (by simp +decide only [go_sem] <;> rfl) Try.underlying50 (by omega) (e := str (key l[j])) (by simp [hj2]) (by kernel_rfl)) ?_
    refine goA ?_
    rw [toL_eq7]
    by_cases he : key l[j] = key x
    · have he2 := hk _ (List.getElem_mem hj2) he
      rw [decide_eq_true he]
      refine ift_ ?_
      have hm : x ∈ l := he2 ▸ List.getElem_mem hj2
      rw [if_pos hm, idxOf_first hj2 he2 hne]
      refine goB ?_
      exact Ret.data rfl rfl (.base _)
    · rw [decide_eq_false he]
      refine iff_ ?_
      refine goB ?_
      rw [wrap_succ (by omega)]
      refine ⟨j + 1, ⟨hj2, fun y h h' => ?_⟩, by omega, .wf⟩
      rcases Nat.lt_or_ge y j with hx | hx
      · exact hne y h hx
      · obtain rfl : y = j := by omega
        exact fun h => he (by rw [h])
  have hc := of_decide_eq_false hc
  obtain rfl : j = l.length := by omega
  have hni : ¬ x ∈ l := fun h => by
    obtain ⟨y, hy, hys⟩ := List.getElem_of_mem h
    exact hne y hy hy hys
  rw [if_neg hni]
  refine goB ?_
  exact Ret.data rfl rfl (.base _)
theorem eqInts_ok (a b : List Nat) (hl : a.length ≤ 1000000) : Fn Try.prog 155 [nL a, nL b] (.bool (decide (a = b))) := by
  refine Fn.intro' [(0, nL a), (1, nL b)] 2 26 Try.func155 (by kernel_rfl) rfl rfl rfl rfl rfl ?_
  have hml : ∀ a : List Nat, (a.map fun x : Nat => AV.int x).length = a.length := fun a => List.length_map _
  refine goB ?_
  by_cases hab : a.length = b.length
  · rw [show ((a.length : Int) != (b.length : Int)) = false by simp [hab]]
    refine iff_ ?_
    refine goB ?_
    refine AWp.loop (J := fun j : Nat => j ≤ a.length ∧ ∀ x (h : x < a.length), x < j → a[x] = b.getD x 0) (fun j => ⟨[(0, nL a), (1, nL b), (5, .int j)], []⟩) (fun j => a.length - j) 0 ⟨Nat.zero_le _, fun x h h' => by omega⟩ .wf ?_
    rintro j ⟨hj, hne⟩
    refine goB ?_
    refine ifA (fun hc => ?_) (fun hc => ?_)
    · have hc := of_decide_eq_true hc
      have hj2 : j < a.length := by omega
      have hna : nth default a (j : Int) = a[j] := nth_eq hj2
      have hnb := nthN (l := b) (k := j) (by omega)
      refine goB ?_
      refine drA (k := 9) follows (hr := ?_)
      refine goB ?_
      rw [hna, hnb]
      by_cases he : a[j] = b.getD j 0
      · rw [show ((a[j] : Int) != ((b.getD j 0 : Nat) : Int)) = false by simp [he]]
        refine iff_ ?_
        refine goB ?_
        rw [wrap_succ (by omega)]
        refine ⟨j + 1, ⟨hj2, fun x h h' => ?_⟩, by omega, .wf⟩
        rcases Nat.lt_or_ge x j with hx | hx
        · exact hne x h hx
        · obtain rfl : x = j := by omega
          exact he
      · rw [show ((a[j] : Int) != ((b.getD j 0 : Nat) : Int)) = true by simp only [bne_iff_ne, ne_eq]; omega]
        refine ift_ ?_
        refine goB ?_
        rw [decide_eq_false (fun h => he (by subst h; rw [List.getD_eq_getElem?_getD, List.getElem?_eq_getElem hj2]; rfl))]
        exact Ret.data rfl rfl (.base _)
    have hc := of_decide_eq_false hc
    obtain rfl : j = a.length := by omega
    have heq : a = b := List.ext_getElem hab fun x h1 h2 => by
      rw [hne x h1 h1, List.getD_eq_getElem?_getD, List.getElem?_eq_getElem h2]; rfl
    rw [decide_eq_true heq]
    refine goB ?_
    exact Ret.data rfl rfl (.base _)
  · rw [show ((a.length : Int) != (b.length : Int)) = true by simp; omega]
    refine ift_ ?_
    refine goB ?_
    rw [decide_eq_false (fun h => hab (by rw [h]))]
    exact Ret.data rfl rfl (.base _)
end Go.Ab
