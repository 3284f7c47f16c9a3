/- Part of the proof. -/
import Derived.Test.YtjfahhbobiiphaaYO
import Derived.Test.YtjfahhbobiiphaaYK
set_option linter.unusedSimpArgs false
set_option linter.unusedVariables false
set_option maxHeartbeats 4000000
namespace Go.Ab
open Go Go.Ab Go.Proofs

inductive Rx.flat : Rx → Prop
  | mk (o : Int) (S : ByteArray) (l : List Rx) (h : o = 4 ∨ o = 6 → ∀ x ∈ l, x.tight) (hl : ∀ x ∈ l, Rx.flat x) : Rx.flat (.mk o S l)
theorem flat_sub {o : Int} {S : ByteArray} {l : List Rx} : (Rx.mk o S l).flat ↔ (o = 4 ∨ o = 6 → ∀ x ∈ l, x.tight) ∧ ∀ x ∈ l, x.flat :=
  ⟨fun | .mk _ _ _ h1 h2 => ⟨h1, h2⟩, fun ⟨h1, h2⟩ => .mk _ _ _ h1 h2⟩
theorem tight_flat {r : Rx} (h : r.tight) : r.flat := by
  induction r using Rx.ind with
  | h o S l ih =>
  obtain ⟨h1, h2, h3⟩ := tight_sub.1 h
  exact flat_sub.2 ⟨fun _ => h3, fun x hx => ih x hx (h3 x hx)⟩
theorem fit_mono {n m : Nat} (h : n ≤ m) (a : Ask) (ha : a.fit n) : a.fit m := by
  induction a using Ask.ind with
  | h o f l ih =>
  obtain ⟨h1, h2, h3, h4⟩ := fit_sub ha
  exact .mk o f l (fun a b c => by have := h1 a b c; omega) h2 h3 fun x hx => ih x hx (h4 x hx)
theorem setsC_app (a b : List Cx) : setsC (a ++ b) = setsC a ++ setsC b := by simp [setsC]
theorem lvsL_mem {x : Rx} : ∀ {l : List Rx}, x ∈ l → lvs x ≤ lvsL l
  | y :: l, h => by
    rw [lvsL]
    rcases List.mem_cons.1 h with rfl | h
    · omega
    · have := lvsL_mem h; omega
theorem lvsL_le : ∀ (l : List Rx), (∀ x ∈ l, lvs x ≤ x.cnt) → lvsL l ≤ cnts l
  | [], _ => by rw [lvsL]; omega
  | x :: l, h => by
    have h1 := h x (by simp)
    have h2 := lvsL_le l fun y hy => h y (by simp [hy])
    rw [lvsL, cnts]; omega
theorem lvs_cnt (r : Rx) : lvs r ≤ r.cnt := by
  induction r using Rx.ind with
  | h o S l ih =>
  have := lvsL_le l ih
  rw [lvs_mk, cnt_mk]
  split <;> omega
theorem hAny_map (l : List Bool) (s : List Ask) : hAny l s = true ↔ true ∈ s.map (hA l) := by
  rw [hAny_iff, List.mem_map]
theorem hAll_map (l : List Bool) (s : List Ask) : hAll l s = true ↔ ∀ b ∈ s.map (hA l), b = true := by
  rw [hAll_iff]
  constructor
  · rintro h b hb
    obtain ⟨x, hx, rfl⟩ := List.mem_map.1 hb
    exact h x hx
  · intro h x hx; exact h _ (List.mem_map.2 ⟨x, hx, rfl⟩)
open Classical in
noncomputable def inL (w : Wd) (x : Rx) : Bool := decide (lng x w)
def AnsW (cs : List Cx) (w : Wd) (full : List Bool) : Prop := ∀ (i : Nat) c, cs[i]? = some c → full[i]? = some (accC c (runC c w))
theorem AnsW.pre {a b : List Cx} {w : Wd} {full : List Bool} (h : AnsW (a ++ b) w full) : AnsW a w full := fun i c hc => by
  refine h i c ?_
  rw [List.getElem?_append_left (List.getElem?_eq_some_iff.1 hc).1]; exact hc
structure SpOk (r : Rx) (cs : List Cx) (q : (Ask × Bool) × List Cx) : Prop where
  t : ∃ t, q.2 = cs ++ t ∧ (setsC t).length ≤ lvs r ∧ (∀ c ∈ t, ∃ L, CxOk c L) ∧ (q.1.2 = true → q.1.1.fit (cs ++ t).length ∧ ∀ (w : Wd) (full : List Bool), AnsW (cs ++ t) w full → (hA full q.1.1 = true ↔ lng r w))
  fl : q.1.2 = true ↔ r.flat
theorem spL_ok (o : Int) : ∀ (l : List Rx), (∀ x ∈ l, ∀ cs, SpOk x cs (spA x cs)) → ∀ (cs : List Cx) (acc : List Ask),
    (∃ t, (spL o l cs acc).2 = cs ++ t ∧ (setsC t).length ≤ lvsL l ∧ (∀ c ∈ t, ∃ L, CxOk c L) ∧ ((spL o l cs acc).1.2 = true → ∃ al, (spL o l cs acc).1.1 = .mk o 0 (acc ++ al) ∧ al.length = l.length ∧ (∀ a ∈ al, a.fit (cs ++ t).length) ∧
      ∀ (w : Wd) (full : List Bool), AnsW (cs ++ t) w full → al.map (hA full) = l.map (inL w))) ∧ ((spL o l cs acc).1.2 = true ↔ ∀ x ∈ l, x.flat) := by
  intro l
  induction l with
  | nil =>
    intro _ cs acc
    rw [spL]
    exact ⟨⟨[], by simp, by simp [setsC, lvsL], by simp, fun _ => ⟨[], by simp, rfl, by simp, fun _ _ _ => rfl⟩⟩, by simp⟩
  | cons x l ih =>
    intro hx cs acc
    obtain ⟨⟨t1, h1, h2, h3, h4⟩, h5⟩ := hx x (by simp) cs
    rw [spL]
    by_cases hb : (spA x cs).1.2 = true
    · rw [if_pos hb]
      obtain ⟨h6, h7⟩ := h4 hb
      obtain ⟨⟨t2, i1, i2, i3, i4⟩, i5⟩ := ih (fun y hy => hx y (by simp [hy])) (spA x cs).2 (acc ++ [(spA x cs).1.1])
      rw [h1] at i1 i4 i5 ⊢
      refine ⟨⟨t1 ++ t2, by rw [i1, List.append_assoc], ?_, ?_, fun hb2 => ?_⟩, ?_⟩
      · rw [setsC_app, List.length_append, lvsL]; omega
      · intro c hc
        rcases List.mem_append.1 hc with hc | hc
        · exact h3 c hc
        · exact i3 c hc
      · obtain ⟨al, j1, j2, j3, j4⟩ := i4 hb2
        rw [List.append_assoc] at j3 j4
        refine ⟨(spA x cs).1.1 :: al, by rw [j1]; simp, by simp [j2], ?_, fun w full hf => ?_⟩
        · intro a ha
          rcases List.mem_cons.1 ha with rfl | ha
          · exact fit_mono (by simp only [List.length_append]; omega) _ h6
          · exact j3 a ha
        · rw [List.map_cons, List.map_cons, j4 w full hf]
          congr 1
          have := h7 w full (AnsW.pre (b := t2) (by rw [List.append_assoc]; exact hf))
          unfold inL
          by_cases hl : lng x w
          · simp [hl, this.2 hl]
          · simp only [hl, decide_false]
            cases hh : hA full (spA x cs).1.1 with
            | false => rfl
            | true => exact absurd (this.1 hh) hl
      · rw [i5]
        simp only [List.mem_cons, forall_eq_or_imp]
        exact ⟨fun h => ⟨h5.1 hb, h⟩, fun h => h.2⟩
    · rw [if_neg hb]
      refine ⟨⟨t1, h1, by rw [lvsL]; omega, h3, fun h => by simp at h⟩, ?_⟩
      simp only [List.mem_cons, forall_eq_or_imp]
      exact ⟨fun h => by simp at h, fun h => absurd (h5.2 h.1) hb⟩
theorem not_tight_o {o : Int} {S : ByteArray} {l : List Rx} (hn : nodeOk o S l.length) (ht : ¬ (Rx.mk o S l).tight) : o = 4 ∨ o = 6 ∨ o = 5 ∨ o = 7 ∨ o = 8 := by
  unfold nodeOk at hn
  by_cases h4 : o = 4
  · exact .inl h4
  by_cases h6 : o = 6
  · exact .inr (.inl h6)
  by_cases h5 : o = 5
  · exact .inr (.inr (.inl h5))
  by_cases h7 : o = 7
  · exact .inr (.inr (.inr (.inl h7)))
  by_cases h8 : o = 8
  · exact .inr (.inr (.inr (.inr h8)))
  exfalso
  have h0 : l.length = 0 := by
    split at hn <;> omega
  have := List.eq_nil_of_length_eq_zero h0
  subst this
  exact ht (tight_sub.2 ⟨h7, h8, by simp⟩)
theorem spA_ok (r : Rx) : r.wf → lvs r ≤ 63 → ∀ cs, SpOk r cs (spA r cs) := by
  induction r using Rx.ind with
  | h o S l ih =>
  intro hw h63 cs
  obtain ⟨hn, hl⟩ := wf_sub.1 hw
  rw [spA]
  by_cases ht : (Rx.mk o S l).tight
  · rw [if_pos ht]
    obtain ⟨h1, h2⟩ := chX0_ok hw ht h63
    refine ⟨⟨[chX0 (.mk o S l)], rfl, ?_, ?_, fun _ => ⟨?_, fun w full hf => ?_⟩⟩, ?_⟩
    · simp [setsC, h2]
    · intro c hc; rw [List.mem_singleton] at hc; subst hc; exact ⟨_, h1⟩
    · exact .mk _ _ _ (fun _ _ _ => by simp; omega) (by simp) (by simp) (by simp)
    · have h3 := hf cs.length (chX0 (.mk o S l)) (by simp)
      rw [← accC_run h1 w]
      simp only [hA]
      rw [if_neg (by decide), if_neg (by decide), if_neg (by decide), List.getD_eq_getElem?_getD]
      simp only [Int.toNat_natCast, h3, Option.getD_some]
    · simp only [true_iff]; exact tight_flat ht
  · rw [if_neg ht]
    have ho := not_tight_o hn ht
    have h3 : o ≠ 3 := by omega
    have hlv : lvs (.mk o S l) = lvsL l := by rw [lvs_mk, if_neg h3]
    by_cases h46 : o = 4 ∨ o = 6
    · rw [if_pos h46]
      refine ⟨⟨[], by simp, by simp [setsC], by simp, fun h => by simp at h⟩, ⟨fun h => by simp at h, fun h => ?_⟩⟩
      exact absurd (tight_sub.2 ⟨by omega, by omega, (flat_sub.1 h).1 h46⟩) ht
    · rw [if_neg h46]
      obtain ⟨⟨t, i1, i2, i3, i4⟩, i5⟩ := spL_ok o l (fun x hx cs => ih x hx (hl x hx) (by have := lvsL_mem hx; omega) cs) cs []
      refine ⟨⟨t, i1, by omega, i3, fun hb => ?_⟩, ?_⟩
      · obtain ⟨al, j1, j2, j3, j4⟩ := i4 hb
        rw [List.nil_append] at j1
        rw [j1]
        have hln : l.length ≤ 8 := by
          unfold nodeOk at hn
          rw [if_neg h3] at hn
          omega
        have hl1 : o = 8 → l.length = 1 := fun h => by
          unfold nodeOk at hn
          rw [if_neg h3] at hn
          omega
        refine ⟨.mk _ _ _ (fun h5 h7 h8 => by omega) (fun h8 => ?_) (by omega) j3, fun w full hf => ?_⟩
        · have := hl1 h8
          intro h; subst h; simp at j2; omega
        · have hm := j4 w full hf
          rw [lng_mk, hA]
          unfold opL
          by_cases h5 : o = 5
          · rw [if_pos h5, hAny_map, hm]
            simp only [h5, List.mem_map, inL, decide_eq_true_eq]
            simp
            exact ⟨fun ⟨x, h1, h2⟩ => ⟨_, ⟨x, h1, rfl⟩, h2⟩, fun ⟨L, ⟨x, h1, h2⟩, h3⟩ => ⟨x, h1, by rw [h2]; exact h3⟩⟩
          by_cases h7 : o = 7
          · rw [if_neg h5, if_pos h7, hAll_map, hm]
            simp only [h7]
            simp
            simp [inL]
          have h8 : o = 8 := by omega
          rw [if_neg h5, if_neg h7, if_pos h8]
          have hl1 := hl1 h8
          obtain ⟨x, rfl⟩ := List.length_eq_one_iff.1 hl1
          obtain ⟨a, rfl⟩ := List.length_eq_one_iff.1 (j2.trans hl1)
          simp only [List.map_cons, List.map_nil, List.cons.injEq, and_true] at hm
          simp only [hFst, hm, inL, h8, List.map_cons, List.map_nil, List.headD_cons]
          simp
      · rw [i5, flat_sub]
        exact ⟨fun h => ⟨fun h' => absurd h' h46, h⟩, fun h => h.2⟩
theorem keyB_get {Ss : List ByteArray} {i j : Nat} (h : keyB Ss i = keyB Ss j) : ∀ S ∈ Ss, (isIn S (UInt8.ofNat (32 + i)) ↔ isIn S (UInt8.ofNat (32 + j))) := fun S hS => by
  unfold keyB at h
  have := List.map_inj_left.1 h S hS
  unfold kb at this
  split at this <;> split at this <;> simp_all
theorem nxC_congr (c : Cx) {x y : UInt8} (h : ∀ S ∈ c.b, (isIn S x ↔ isIn S y)) (s : B64) : nxC c s x = nxC c s y := by
  unfold nxC
  have go : ∀ k, k ≤ c.b.length → outC c (toC c s c.f.length) x k = outC c (toC c s c.f.length) y k := by
    intro k
    induction k with
    | zero => intro _; rfl
    | succ k ih =>
      intro hk
      have h1 : c.b.getD k ByteArray.empty ∈ c.b := by
        rw [List.getD_eq_getElem?_getD, List.getElem?_eq_getElem hk]; exact List.getElem_mem _
      have h2 := h _ h1
      have h3 : outC c (toC c s c.f.length) x k = outC c (toC c s c.f.length) y k := ih (by omega)
      rw [outC, outC, h3]
      by_cases h6 : (toC c s c.f.length).getLsbD k = true
      · by_cases h4 : isIn (c.b.getD k ByteArray.empty) x
        · rw [if_pos ⟨h6, h4⟩, if_pos ⟨h6, h2.1 h4⟩]
        · rw [if_neg (fun h => h4 h.2), if_neg (fun h => h4 (h2.2 h.2))]
      · rw [if_neg (fun h => h6 h.1), if_neg (fun h => h6 h.1)]
  exact go _ (Nat.le_refl _)
theorem dC_map (cs : List Cx) (f : Cx → B64) (b : UInt8) : dC cs (cs.map f) b = cs.map fun c => nxC c (f c) b := by
  unfold dC
  induction cs with
  | nil => rfl
  | cons c cs ih => simp only [List.map_cons, List.zipWith_cons_cons, ih]
theorem ansC_map (cs : List Cx) (f : Cx → B64) : ansC cs (cs.map f) = cs.map fun c => accC c (f c) := by
  unfold ansC
  induction cs with
  | nil => rfl
  | cons c cs ih => simp only [List.map_cons, List.zipWith_cons_cons, ih]
theorem run_dC (cs : List Cx) : ∀ (w : Wd) (f : Cx → B64), w.foldl (fun s a => dC cs s (lb a)) (cs.map f) = cs.map fun c => w.foldl (fun s a => nxC c s (lb a)) (f c)
  | [], f => rfl
  | a :: w, f => by
    rw [List.foldl_cons, dC_map, run_dC cs w]; rfl
theorem dC_congr {cs : List Cx} {x y : UInt8} (h : ∀ S ∈ setsC cs, (isIn S x ↔ isIn S y)) (s : List B64) : dC cs s x = dC cs s y := by
  unfold dC
  have : ∀ (cs : List Cx) (s : List B64), (∀ c ∈ cs, ∀ S ∈ c.b, (isIn S x ↔ isIn S y)) → List.zipWith (fun c t => nxC c t x) cs s = List.zipWith (fun c t => nxC c t y) cs s := by
    intro cs
    induction cs with
    | nil => intro s _; rfl
    | cons c cs ih =>
      intro s hc
      cases s with
      | nil => rfl
      | cons t s => rw [List.zipWith_cons_cons, List.zipWith_cons_cons, nxC_congr c (hc c (by simp)), ih s fun d hd => hc d (by simp [hd])]
  exact this cs s fun c hc S hS => h S (by unfold setsC; exact List.mem_flatten.2 ⟨c.b, List.mem_map.2 ⟨c, hc, rfl⟩, hS⟩)
theorem stC_map (cs : List Cx) : List.replicate cs.length (bt 63) = cs.map fun _ => stC := by
  induction cs with
  | nil => rfl
  | cons c cs ih => rw [List.length_cons, List.replicate_succ, ih]; rfl
def gI (G : List Int) (a : Fin 95) : Nat := (G.getD a.val 0).toNat
theorem grpG_at (K : Nat → List UInt8) {i : Nat} (h : i < 95) : (grpG K 95)[i]? = some ((grN K i : Nat) : Int) := by
  unfold grpG
  rw [Nat.sub_self, List.replicate_zero, List.append_nil, List.getElem?_map, List.getElem?_range h]; rfl
theorem gI_grp (K : Nat → List UInt8) (a : Fin 95) : gI (grpG K 95) a = grN K a.val := by
  unfold gI
  rw [List.getD_eq_getElem?_getD, grpG_at K a.isLt]; simp
theorem gsB_len (K : Nat → List UInt8) : (gsB K).length = (fsN K 95).length := by simp [gsB]
structure MkOk (L : Lg) (m : List Int × List (List Nat) × List Bool) : Prop where
  gl : m.1.length = 95
  gp : ∀ x ∈ m.1, ∃ n : Nat, x = n
  gm : ∃ k, k ≤ 95 ∧ Gm (gI m.1) k m.2.1 m.2.2
  rd : Rd L m.2.1.length (stR (gI m.1) m.2.1) (acR m.2.2)
noncomputable def madeK (B K : Nat) (r : Rx) : Option (List Int × List (List Nat) × List Bool) :=
  if (spA r []).1.2 = false then none
  else if (xsC (spA r []).2 K).1.length ≤ B then some (grpG (keyB (setsC (spA r []).2)) 95, (xsC (spA r []).2 K).2, (xsC (spA r []).2 K).1.map fun s => hA (ansC (spA r []).2 s) (spA r []).1.1)
  else none
theorem madeK_eq (r : Rx) : madeR r = madeK 20000 20001 r := rfl
theorem madeK_ok {B K : Nat} (hBK : B ≤ K) {r : Rx} (hw : r.wf) (h63 : lvs r ≤ 63) {m : List Int × List (List Nat) × List Bool} (h : madeK B K r = some m) : MkOk (lng r) m ∧ r.flat ∧ m.2.1.length ≤ B := by
  obtain ⟨⟨t, h1, h2, h3, h4⟩, h5⟩ := spA_ok r hw h63 []
  unfold madeK at h
  rw [List.nil_append] at h1 h4
  by_cases hb : (spA r []).1.2 = true
  · rw [if_neg (by simp [hb])] at h
    split at h
    · rename_i hx
      injection h with h
      subst h
      rw [h1] at hx ⊢
      have hfit := (h4 hb).1
      have hans := (h4 hb).2
      generalize hKy : keyB (setsC t) = Ky at *
      unfold xsC at hx ⊢
      rw [hKy] at hx ⊢
      have hF := xs_fin (K := K) (δ := dC t) (gs := gsB Ky) (s0 := List.replicate t.length (bt 63)) (by omega)
      generalize xs (dC t) (gsB Ky) (List.replicate t.length (bt 63)) K = X at *
      have hg : ∀ a : Fin 95, gI (grpG Ky 95) a < (gsB Ky).length := fun a => by rw [gI_grp, gsB_len]; exact grN_lt Ky a.isLt
      have hs : ∀ x, x < (gsB Ky).length → ∃ a : Fin 95, gI (grpG Ky 95) a = x := fun x hx => by
        rw [gsB_len] at hx
        exact ⟨⟨(fsN Ky 95)[x], fsN_lt Ky 95 _ (List.getElem_mem hx)⟩, by rw [gI_grp]; exact grN_sur Ky hx⟩
      have hd : ∀ s ∈ X.1, ∀ a : Fin 95, ∃ x, (gsB Ky)[gI (grpG Ky 95) a]? = some x ∧ dC t s x = dC t s (lb a) := fun s _ a => by
        obtain ⟨j, j1, j2, j3⟩ := grN_at Ky a.isLt
        refine ⟨UInt8.ofNat (32 + j), by rw [gI_grp]; unfold gsB; rw [List.getElem?_map, j1]; rfl, ?_⟩
        subst hKy
        exact dC_congr (keyB_get j3) s
      refine ⟨⟨grpG_len Ky (Nat.le_refl _), ?_, ⟨(gsB Ky).length, ?_, hF.gm hg hs _⟩, ?_⟩, h5.1 hb, ?_⟩
      · intro x hx
        unfold grpG at hx
        rw [Nat.sub_self, List.replicate_zero, List.append_nil] at hx
        obtain ⟨j, _, rfl⟩ := List.mem_map.1 hx
        exact ⟨_, rfl⟩
      · rw [gsB_len]; exact fsN_len Ky 95
      · refine hF.rd hg hs hd fun w => ?_
        rw [stC_map, run_dC, ansC_map]
        refine hans w _ fun i c hc => ?_
        rw [List.getElem?_map, hc]; rfl
      · rw [hF.len]; exact hx
    · cases h
  · rw [if_pos (by simpa using hb)] at h; cases h
theorem madeR_ok {r : Rx} (hw : r.wf) (h63 : lvs r ≤ 63) {m : List Int × List (List Nat) × List Bool} (h : madeR r = some m) : MkOk (lng r) m ∧ r.flat ∧ m.2.1.length ≤ 20000 :=
  madeK_ok (by decide) hw h63 ((madeK_eq r).symm.trans h)
theorem leastR_ok {L : Lg} {m m' : List Int × List (List Nat) × List Bool} (hm : MkOk L m) (h : leastR m = some m') :
    MkOk L m' ∧ Lm L m'.2.1.length (stR (gI m'.1) m'.2.1) (acR m'.2.2) ∧ m'.2.1.length ≤ 200 := by
  unfold leastR at h
  split at h
  · rename_i hc
    injection h with h
    subst h
    obtain ⟨k, hk, hG⟩ := hm.gm
    have hL := lmF hG (cl0 := cl0A m.2.2) (fun i j hi hj => cl0A_iff (by rw [hG.al]; exact hi) (by rw [hG.al]; exact hj)) hm.rd
    exact ⟨⟨hm.gl, hm.gp, ⟨k, hk, gmF hG⟩, hL.toRd⟩, hL, by rw [rowsF_len]; exact hc⟩
  · cases h
theorem leastR_none {L : Lg} {m : List Int × List (List Nat) × List Bool} (hm : MkOk L m) (h : leastR m = none) {n : Nat} {st : Nat → Fin 95 → Nat} {ac : Nat → Bool} (hn : Lm L n st ac) : 200 < n := by
  unfold leastR at h
  split at h
  · cases h
  · rename_i hc
    obtain ⟨k, hk, hG⟩ := hm.gm
    have hL := lmF hG (cl0 := cl0A m.2.2) (fun i j hi hj => cl0A_iff (by rw [hG.al]; exact hi) (by rw [hG.al]; exact hj)) hm.rd
    have := hL.size hn
    rw [rowsF_len] at this
    omega
end Go.Ab
set_option maxHeartbeats 4000000
namespace Go.Ab
open Go Go.Ab Go.Proofs

def pwU : List Nat → List (List B64)
  | [] => [[]]
  | n :: ns => (List.range (2 ^ n)).flatMap fun x => (pwU ns).map (BitVec.ofNat 64 x :: ·)
theorem flat_len {α β γ : Type} (L : List β) (g : α → β → γ) : ∀ l : List α, (l.flatMap fun x => L.map (g x)).length = l.length * L.length
  | [] => by simp
  | x :: l => by
    rw [List.flatMap_cons, List.length_append, List.length_map, flat_len L g l, List.length_cons, Nat.succ_mul]; omega
theorem pwU_len : ∀ ns, (pwU ns).length = 2 ^ ns.sum
  | [] => rfl
  | n :: ns => by
    rw [pwU, flat_len, List.length_range, pwU_len ns, List.sum_cons, Nat.pow_add]
theorem mem_pwU : ∀ (ns : List Nat) (s : List B64), s.length = ns.length → (∀ i, i < ns.length → (s.getD i 0).toNat < 2 ^ ns.getD i 0) → s ∈ pwU ns
  | [], [], _, _ => by simp [pwU]
  | n :: ns, x :: s, h, hb => by
    rw [pwU, List.mem_flatMap]
    refine ⟨x.toNat, List.mem_range.2 (by simpa using hb 0 (by simp)), List.mem_map.2 ⟨s, mem_pwU ns s (by simpa using h) fun i hi => ?_, by simp⟩⟩
    simpa using hb (i + 1) (by simpa using hi)
theorem nxC_lt {c : Cx} (h63 : c.b.length ≤ 63) (s : B64) (x : UInt8) : (nxC c s x).toNat < 2 ^ c.b.length := by
  refine Nat.lt_pow_two_of_testBit _ fun i hi => ?_
  rw [BitVec.testBit_toNat]
  have := outC_get c (toC c s c.f.length) x i c.b.length (Nat.le_refl _) (by omega)
  unfold bs at this
  cases hh : (nxC c s x).getLsbD i with
  | false => rfl
  | true =>
    have := (this.1 hh).1
    omega
theorem xsC_few {t : List Cx} (h63 : ∀ c ∈ t, c.b.length ≤ 63) (gs : List UInt8) (k : Nat) : (xs (dC t) gs (List.replicate t.length (bt 63)) k).1.length ≤ 1 + 2 ^ (setsC t).length := by
  obtain ⟨nd, zero, len, wd, lt, nx, reach⟩ := xs_ok (dC t) gs (List.replicate t.length (bt 63)) k
  have hs : (setsC t).length = (t.map fun c => c.b.length).sum := by
    unfold setsC
    rw [List.length_flatten, List.map_map]; rfl
  have h := sub_len _ (List.replicate t.length (bt 63) :: pwU (t.map fun c => c.b.length)) nd fun s hs => by
    obtain ⟨w, _, rfl⟩ := reach s hs
    rcases List.eq_nil_or_concat w with rfl | ⟨w', b, rfl⟩
    · simp
    · refine List.mem_cons_of_mem _ (mem_pwU _ _ ?_ fun i hi => ?_)
      · rw [dC_len t _ _ (by simp), List.length_map]
      · rw [List.length_map] at hi
        rw [List.concat_eq_append, List.foldl_append]
        simp only [List.foldl_cons, List.foldl_nil]
        rw [dC_get (dC_len t _ _ (by simp)) b hi]
        have h9 : (t.map fun c => c.b.length).getD i 0 = t[i].b.length := by
          rw [List.getD_eq_getElem?_getD, List.getElem?_map, List.getElem?_eq_getElem hi]; rfl
        rw [h9]
        exact nxC_lt (h63 _ (List.getElem_mem hi)) _ _
  rw [List.length_cons, pwU_len, ← hs] at h
  omega
theorem madeK_small {B K : Nat} (hB : 1 + 2 ^ 13 ≤ B) {r : Rx} (hw : r.wf) (h13 : lvs r ≤ 13) (hf : r.flat) : ∃ m, madeK B K r = some m := by
  obtain ⟨⟨t, h1, h2, h3, h4⟩, h5⟩ := spA_ok r hw (by omega) []
  unfold madeK
  rw [if_neg (by simp [h5.2 hf])]
  rw [List.nil_append] at h1
  have h6 := xsC_few (t := t) (fun c hc => by obtain ⟨L, hL⟩ := h3 c hc; exact hL.h63) (gsB (keyB (setsC t))) K
  have h7 : 2 ^ (setsC t).length ≤ 2 ^ 13 := Nat.pow_le_pow_right (by decide) (by omega)
  rw [h1]
  unfold xsC
  rw [if_pos (by omega)]
  exact ⟨_, rfl⟩
theorem madeR_small {r : Rx} (hw : r.wf) (h13 : lvs r ≤ 13) (hf : r.flat) : ∃ m, madeR r = some m := by
  rw [madeK_eq]; exact madeK_small (by decide) hw h13 hf
theorem lvs_14 {r : Rx} (hw : r.wf) (h : r.cnt ≤ 14) : lvs r ≤ 13 := by
  obtain ⟨o, S, l⟩ := r
  have := lvsL_le l fun x _ => lvs_cnt x
  rw [cnt_mk] at h
  rw [lvs_mk]
  split <;> omega
end Go.Ab
set_option maxHeartbeats 4000000
namespace Go.Ab
open Go Go.Ab Go.Proofs

section
variable {β γ : Type} [DecidableEq β]
theorem xs_pre (δ : β → γ → β) (gs : List γ) (s0 : β) (k : Nat) : ∀ m, ∃ t, (xs δ gs s0 (k + m)).1 = (xs δ gs s0 k).1 ++ t
  | 0 => ⟨[], by simp⟩
  | m + 1 => by
    obtain ⟨t, ht⟩ := xs_pre δ gs s0 k m
    show ∃ t, (xs δ gs s0 (k + m + 1)).1 = _
    cases h : (xs δ gs s0 (k + m)).1[k + m]? with
    | none => rw [xs_none (List.getElem?_eq_none_iff.1 h)]; exact ⟨t, ht⟩
    | some s =>
      rw [xs_some h]
      obtain ⟨t2, h2⟩ := (rowX_ok (δ s) (xs δ gs s0 (k + m)).1 gs.length gs rfl).pre
      exact ⟨t ++ t2, by simp only; rw [h2, ht, List.append_assoc]⟩
end
abbrev Mk := List Int × List (List Nat) × List Bool
def stepN (G : List Int) (rows : List (List Nat)) (p c : Nat) : Nat := (rows.getD p []).getD (G.getD c 0).toNat 0
structure MkW (m : Mk) : Prop where
  gl : m.1.length = 95
  gp : ∀ c, c < 95 → ∃ n : Nat, m.1[c]? = some (n : Int) ∧ ∀ r ∈ m.2.1, n < r.length
  al : m.2.2.length = m.2.1.length
  lt : ∀ r ∈ m.2.1, ∀ x ∈ r, x < m.2.1.length
  wd : ∀ r ∈ m.2.1, r.length ≤ 95
  pos : 0 < m.2.1.length
theorem MkOk.w {L : Lg} {m : Mk} (h : MkOk L m) : MkW m := by
  obtain ⟨k, hk, hG⟩ := h.gm
  refine ⟨h.gl, fun c hc => ?_, hG.al, hG.lt, fun r hr => by rw [hG.wd r hr]; exact hk, hG.pos⟩
  have h1 : c < m.1.length := by rw [h.gl]; exact hc
  obtain ⟨n, hn⟩ := h.gp _ (List.getElem_mem h1)
  refine ⟨n, by rw [List.getElem?_eq_getElem h1, hn], fun r hr => ?_⟩
  rw [hG.wd r hr]
  have h2 := hG.gk ⟨c, hc⟩
  unfold gI at h2
  rw [List.getD_eq_getElem?_getD, List.getElem?_eq_getElem h1, Option.getD_some, hn] at h2
  simpa using h2
theorem MkW.g {m : Mk} (h : MkW m) {p c : Nat} (hp : p < m.2.1.length) (hc : c < 95) : (m.1.getD c 0).toNat < (m.2.1.getD p []).length ∧ m.1[c]? = some (((m.1.getD c 0).toNat : Nat) : Int) := by
  obtain ⟨n, h1, h2⟩ := h.gp c hc
  have h3 : m.1.getD c 0 = (n : Int) := by rw [List.getD_eq_getElem?_getD, h1]; rfl
  rw [h3]
  refine ⟨?_, by rw [h1]; simp⟩
  rw [List.getD_eq_getElem?_getD, List.getElem?_eq_getElem hp, Option.getD_some]
  simpa using h2 _ (List.getElem_mem hp)
theorem MkW.st {m : Mk} (h : MkW m) {p c : Nat} (hp : p < m.2.1.length) (hc : c < 95) : stepN m.1 m.2.1 p c < m.2.1.length := by
  have h1 := (h.g hp hc).1
  unfold stepN
  rw [List.getD_eq_getElem?_getD (l := m.2.1), List.getElem?_eq_getElem hp, Option.getD_some] at h1 ⊢
  rw [List.getD_eq_getElem?_getD, List.getElem?_eq_getElem h1, Option.getD_some]
  exact h.lt _ (List.getElem_mem hp) _ (List.getElem_mem h1)
abbrev stM (m : Mk) : Nat → Fin 95 → Nat := stR (gI m.1) m.2.1
section
variable {m n : Mk} (hm : MkW m) (hn : MkW n)
include hm hn
omit hm hn in
end
end Go.Ab
