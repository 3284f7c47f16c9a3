/- Part of the proof. -/
import Derived.Test.YtjfahhbobiiphaaYQ
import Derived.Test.YtjfahhbobiiphaaYS
import Derived.Test.YtjfahhbobiiphaaYN
set_option linter.unusedSimpArgs false
set_option linter.unusedVariables false
set_option maxHeartbeats 4000000
namespace Go.Ab
open Go Go.Ab Go.Proofs

abbrev Mb := List (List Nat) × List Bool
def cl1 (acs : List Bool) : List Nat := acs.map fun a => if a then 1 else 0
theorem cl1_len (acs : List Bool) : (cl1 acs).length = acs.length := by simp [cl1]
theorem cl1_get {acs : List Bool} {i : Nat} (h : i < acs.length) : (cl1 acs).getD i 0 = if acR acs i then 1 else 0 := by
  unfold cl1 acR
  rw [List.getD_eq_getElem?_getD, List.getElem?_map, List.getElem?_eq_getElem h, List.getD_eq_getElem?_getD, List.getElem?_eq_getElem h]; rfl
theorem cl1_iff {acs : List Bool} {i j : Nat} (hi : i < acs.length) (hj : j < acs.length) : (cl1 acs).getD i 0 = (cl1 acs).getD j 0 ↔ acR acs i = acR acs j := by
  rw [cl1_get hi, cl1_get hj]
  cases acR acs i <;> cases acR acs j <;> simp
def lstR (m : Mb) : Mb := (rowsF m.1 (cl1 m.2), acsF m.1 (cl1 m.2) m.2)
structure MbOk (g : Fin 95 → Nat) (nk : Nat) (L : Lg) (m : Mb) : Prop where
  gm : Gm g nk m.1 m.2
  lm : Lm L m.1.length (stR g m.1) (acR m.2)
theorem lstR_ok {g : Fin 95 → Nat} {nk : Nat} {L : Lg} {m : Mb} (hG : Gm g nk m.1 m.2) (hr : Rd L m.1.length (stR g m.1) (acR m.2)) : MbOk g nk L (lstR m) ∧ (lstR m).1.length ≤ m.1.length := by
  have hL := lmF hG (cl0 := cl1 m.2) (fun i j hi hj => cl1_iff (by rw [hG.al]; exact hi) (by rw [hG.al]; exact hj)) hr
  exact ⟨⟨gmF hG, hL⟩, hL.le hr⟩
def allB : Nat → List (List Bool)
  | 0 => [[]]
  | n + 1 => (allB n).map (false :: ·) ++ (allB n).map (true :: ·)
theorem allB_len : ∀ n, (allB n).length = 2 ^ n
  | 0 => rfl
  | n + 1 => by rw [allB, List.length_append, List.length_map, List.length_map, allB_len n, Nat.pow_succ]; omega
theorem mem_allB : ∀ (n : Nat) (s : List Bool), s.length = n → s ∈ allB n
  | 0, [], _ => by simp [allB]
  | n + 1, false :: s, h => by
    rw [allB, List.mem_append]
    exact .inl (List.mem_map.2 ⟨s, mem_allB n s (by simpa using h), rfl⟩)
  | n + 1, true :: s, h => by
    rw [allB, List.mem_append]
    exact .inr (List.mem_map.2 ⟨s, mem_allB n s (by simpa using h), rfl⟩)
noncomputable def xsP (gs : List UInt8) (N : Nt) (k : Nat) : List (List Bool) × List (List Nat) := xs (dN N) gs (s0N N) k
theorem dN_len {N : Nt} : ∀ (w : List UInt8) (s : List Bool), s.length = N.n → (w.foldl (dN N) s).length = N.n
  | [], s, h => h
  | c :: w, s, h => dN_len w _ (cloN_len _ _)
theorem xsP_el (gs : List UInt8) (N : Nt) (k : Nat) : ∀ s ∈ (xsP gs N k).1, s.length = N.n := fun s hs => by
  obtain ⟨w, _, rfl⟩ := (xs_ok (dN N) gs (s0N N) k).reach s hs
  exact dN_len w _ (cloN_len _ _)
theorem xsP_len (gs : List UInt8) (N : Nt) (k : Nat) : (xsP gs N k).1.length ≤ 2 ^ N.n := by
  rw [← allB_len]
  exact sub_len _ _ (xs_ok (dN N) gs (s0N N) k).nd fun s hs => mem_allB _ s (xsP_el gs N k s hs)
noncomputable def plR0 (gs : List UInt8) (N : Nt) : Mb := ((xsP gs N (2 ^ N.n)).2, (xsP gs N (2 ^ N.n)).1.map fun s => s.getD 1 false)
noncomputable def plR (gs : List UInt8) (r : Rx) : Mb := lstR (plR0 gs (ntX r))
noncomputable def gK (Ss : List ByteArray) (a : Fin 95) : Nat := grN (keyB Ss) a.val
theorem gK_lt (Ss : List ByteArray) (a : Fin 95) : gK Ss a < (gsB (keyB Ss)).length := by rw [gsB_len]; exact grN_lt _ a.isLt
theorem gK_sur (Ss : List ByteArray) {x : Nat} (hx : x < (gsB (keyB Ss)).length) : ∃ a : Fin 95, gK Ss a = x := by
  rw [gsB_len] at hx
  exact ⟨⟨(fsN (keyB Ss) 95)[x], fsN_lt _ 95 _ (List.getElem_mem hx)⟩, grN_sur _ hx⟩
theorem gK_at (Ss : List ByteArray) (a : Fin 95) : ∃ c, (gsB (keyB Ss))[gK Ss a]? = some c ∧ ∀ S ∈ Ss, (isIn S c ↔ isIn S (lb a)) := by
  obtain ⟨j, j1, j2, j3⟩ := grN_at (keyB Ss) a.isLt
  refine ⟨UInt8.ofNat (32 + j), ?_, keyB_get j3⟩
  unfold gsB gK; rw [List.getElem?_map, j1]; rfl
theorem plR_ok {Ss : List ByteArray} {r : Rx} (hw : r.wf) (ht : r.tight) (hS : ∀ S ∈ setsR r, S ∈ Ss) : MbOk (gK Ss) (gsB (keyB Ss)).length (lng r) (plR (gsB (keyB Ss)) r) ∧ (plR (gsB (keyB Ss)) r).1.length ≤ 2 ^ (2 * r.cnt) ∧
    Gm (gK Ss) (gsB (keyB Ss)).length (plR0 (gsB (keyB Ss)) (ntX r)).1 (plR0 (gsB (keyB Ss)) (ntX r)).2 := by
  have hn := (ntX_ok hw ht).n
  have e0 : nt0.n = 0 := rfl
  rw [e0] at hn
  have hl := xsP_len (gsB (keyB Ss)) (ntX r) (2 ^ (ntX r).n)
  have hF := xs_fin (δ := dN (ntX r)) (gs := gsB (keyB Ss)) (s0 := s0N (ntX r)) (K := 2 ^ (ntX r).n) hl
  have hd : ∀ s ∈ (xsP (gsB (keyB Ss)) (ntX r) (2 ^ (ntX r).n)).1, ∀ a : Fin 95, ∃ x, (gsB (keyB Ss))[gK Ss a]? = some x ∧ dN (ntX r) s x = dN (ntX r) s (lb a) := fun s _ a => by
    obtain ⟨c, h1, h2⟩ := gK_at Ss a
    exact ⟨c, h1, dN_congr (fun S hS' => h2 S (hS S hS')) s⟩
  have hG := hF.gm (gK_lt Ss) (fun x hx => gK_sur Ss hx) (fun s => s.getD 1 false)
  have hR := hF.rd (gK_lt Ss) (fun x hx => gK_sur Ss hx) hd (A := fun s => s.getD 1 false) (L := lng r) (fun w => ntX_run hw ht w)
  obtain ⟨h1, h2⟩ := lstR_ok (m := plR0 (gsB (keyB Ss)) (ntX r)) hG hR
  refine ⟨h1, Nat.le_trans h2 ?_, hG⟩
  have h3 : (plR0 (gsB (keyB Ss)) (ntX r)).1.length ≤ 2 ^ (ntX r).n := by
    show (xsP (gsB (keyB Ss)) (ntX r) (2 ^ (ntX r).n)).2.length ≤ _
    unfold xsP; rw [hF.len]; exact hl
  exact Nat.le_trans h3 (Nat.pow_le_pow_right (by decide) (by omega))
def dB (a b : Mb) (p : Nat × Nat) (k : Nat) : Nat × Nat := ((a.1.getD p.1 []).getD k 0, (b.1.getD p.2 []).getD k 0)
def opB (o : Int) (x y : Bool) : Bool := (decide (o = 7) && (x && y)) || (decide (o = 5) && (x || y))
def xsB (a b : Mb) (nk k : Nat) : List (Nat × Nat) × List (List Nat) := xs (dB a b) (List.range nk) (0, 0) k
def btR0 (o : Int) (nk : Nat) (a b : Mb) : Mb := ((xsB a b nk (a.1.length * b.1.length)).2, (xsB a b nk (a.1.length * b.1.length)).1.map fun p => opB o (acR a.2 p.1) (acR b.2 p.2))
def btR (o : Int) (nk : Nat) (a b : Mb) : Mb := lstR (btR0 o nk a b)
theorem Gm.cell {g : Fin 95 → Nat} {nk : Nat} {m : Mb} (h : Gm g nk m.1 m.2) {q k : Nat} (hq : q < m.1.length) (hk : k < nk) : (m.1.getD q []).getD k 0 < m.1.length := by
  obtain ⟨a, rfl⟩ := h.sur k hk
  exact h.cl q hq a
theorem dB_lt {g : Fin 95 → Nat} {nk : Nat} {a b : Mb} (ha : Gm g nk a.1 a.2) (hb : Gm g nk b.1 b.2) : ∀ (w : List Nat) (p : Nat × Nat), (∀ c ∈ w, c ∈ List.range nk) → p.1 < a.1.length → p.2 < b.1.length → (w.foldl (dB a b) p).1 < a.1.length ∧ (w.foldl (dB a b) p).2 < b.1.length
  | [], p, _, h1, h2 => ⟨h1, h2⟩
  | c :: w, p, hw, h1, h2 => by
    have hc := List.mem_range.1 (hw c (by simp))
    exact dB_lt ha hb w _ (fun d hd => hw d (by simp [hd])) (ha.cell h1 hc) (hb.cell h2 hc)
theorem xsB_lt {g : Fin 95 → Nat} {nk : Nat} {a b : Mb} (ha : Gm g nk a.1 a.2) (hb : Gm g nk b.1 b.2) (k : Nat) : ∀ p ∈ (xsB a b nk k).1, p.1 < a.1.length ∧ p.2 < b.1.length := fun p hp => by
  obtain ⟨w, h1, rfl⟩ := (xs_ok (dB a b) (List.range nk) (0, 0) k).reach p hp
  exact dB_lt ha hb w (0, 0) h1 ha.pos hb.pos
theorem xsB_len {g : Fin 95 → Nat} {nk : Nat} {a b : Mb} (ha : Gm g nk a.1 a.2) (hb : Gm g nk b.1 b.2) (k : Nat) : (xsB a b nk k).1.length ≤ a.1.length * b.1.length := by
  have h := sub_len (xsB a b nk k).1 ((List.range a.1.length).flatMap fun x => (List.range b.1.length).map (Prod.mk x)) (xs_ok (dB a b) (List.range nk) (0, 0) k).nd fun p hp => by
    obtain ⟨h1, h2⟩ := xsB_lt ha hb k p hp
    exact List.mem_flatMap.2 ⟨p.1, List.mem_range.2 h1, List.mem_map.2 ⟨p.2, List.mem_range.2 h2, rfl⟩⟩
  rw [flat_len, List.length_range, List.length_range] at h
  exact h
theorem btR_ok {g : Fin 95 → Nat} {nk : Nat} {La Lb : Lg} {a b : Mb} (ha : MbOk g nk La a) (hb : MbOk g nk Lb b) (o : Int) : MbOk g nk (fun w => (o = 7 ∧ La w ∧ Lb w) ∨ (o = 5 ∧ (La w ∨ Lb w))) (btR o nk a b) ∧ (btR o nk a b).1.length ≤ a.1.length * b.1.length ∧ Gm g nk (btR0 o nk a b).1 (btR0 o nk a b).2 := by
  have hl := xsB_len ha.gm hb.gm (a.1.length * b.1.length)
  have hF := xs_fin (δ := dB a b) (gs := List.range nk) (s0 := (0, 0)) (K := a.1.length * b.1.length) hl
  have hgl : ∀ x : Fin 95, g x < (List.range nk).length := fun x => by rw [List.length_range]; exact ha.gm.gk x
  have hgs : ∀ x, x < (List.range nk).length → ∃ a, g a = x := fun x hx => ha.gm.sur x (by rwa [List.length_range] at hx)
  have hd : ∀ s ∈ (xsB a b nk (a.1.length * b.1.length)).1, ∀ x : Fin 95, ∃ k, (List.range nk)[g x]? = some k ∧ dB a b s k = (fun (p : Nat × Nat) (x : Fin 95) => (stR g a.1 p.1 x, stR g b.1 p.2 x)) s x := fun s _ x =>
    ⟨g x, List.getElem?_range (ha.gm.gk x), rfl⟩
  have hfold : ∀ (w : Wd) (p : Nat × Nat), w.foldl (fun (p : Nat × Nat) (x : Fin 95) => (stR g a.1 p.1 x, stR g b.1 p.2 x)) p = (dr (stR g a.1) p.1 w, dr (stR g b.1) p.2 w) := by
    intro w
    induction w with
    | nil => intro p; rfl
    | cons x w ih => intro p; rw [List.foldl_cons, ih]; rfl
  have hG := hF.gm hgl hgs (fun p => opB o (acR a.2 p.1) (acR b.2 p.2))
  rw [List.length_range] at hG
  have hR := hF.rd hgl hgs hd (A := fun p => opB o (acR a.2 p.1) (acR b.2 p.2)) (L := fun w => (o = 7 ∧ La w ∧ Lb w) ∨ (o = 5 ∧ (La w ∨ Lb w))) (fun w => by
    rw [hfold]
    simp only [opB, Bool.or_eq_true, Bool.and_eq_true, decide_eq_true_eq]
    rw [ha.lm.lang w, hb.lm.lang w])
  obtain ⟨h1, h2⟩ := lstR_ok (m := btR0 o nk a b) hG hR
  refine ⟨h1, Nat.le_trans h2 ?_, hG⟩
  show (xsB a b nk (a.1.length * b.1.length)).2.length ≤ _
  unfold xsB; rw [hF.len]; exact hl
def notB (m : Mb) : Mb := (m.1, m.2.map fun b => !b)
theorem notB_ok {g : Fin 95 → Nat} {nk : Nat} {L : Lg} {m : Mb} (h : MbOk g nk L m) : MbOk g nk (fun w => ¬ L w) (notB m) := by
  have hac : ∀ q, q < m.1.length → acR (notB m).2 q = !acR m.2 q := fun q hq => by
    have : q < m.2.length := by rw [h.gm.al]; exact hq
    unfold notB acR
    rw [List.getD_eq_getElem?_getD, List.getElem?_map, List.getElem?_eq_getElem this, List.getD_eq_getElem?_getD, List.getElem?_eq_getElem this]; rfl
  have hG : Gm g nk (notB m).1 (notB m).2 := ⟨h.gm.pos, by unfold notB; simp [h.gm.al], h.gm.wd, h.gm.lt, h.gm.gk, h.gm.sur⟩
  refine ⟨hG, ⟨h.lm.pos, h.lm.cl, fun w => ?_, h.lm.reach⟩, fun p q hp hq hw => h.lm.sep p q hp hq fun w => ?_⟩
  · have h2 := dr_lt h.lm.cl w 0 h.lm.pos
    rw [show stR g (notB m).1 = stR g m.1 from rfl, hac _ h2, ← h.lm.lang w]
    cases acR m.2 (dr (stR g m.1) 0 w) <;> simp
  · have h2 := hw w
    rw [show stR g (notB m).1 = stR g m.1 from rfl, hac _ (dr_lt h.lm.cl w p hp), hac _ (dr_lt h.lm.cl w q hq)] at h2
    revert h2
    cases acR m.2 (dr (stR g m.1) p w) <;> cases acR m.2 (dr (stR g m.1) q w) <;> simp
mutual
noncomputable def mcR (gs : List UInt8) : Rx → Mb
  | .mk o S l => open Classical in if (Rx.mk o S l).tight then plR gs (.mk o S l) else if o = 8 then notB (mcH gs l) else mcF gs o l none
noncomputable def mcH (gs : List UInt8) : List Rx → Mb
  | [] => ([], [])
  | x :: _ => mcR gs x
noncomputable def mcF (gs : List UInt8) (o : Int) : List Rx → Option Mb → Mb
  | [], a => a.getD ([], [])
  | x :: l, none => mcF gs o l (some (mcR gs x))
  | x :: l, some a => mcF gs o l (some (btR o gs.length a (mcR gs x)))
end
theorem mcF_ok {Ss : List ByteArray} (o : Int) (ho : o = 5 ∨ o = 7) : ∀ (l : List Rx), (∀ x ∈ l, MbOk (gK Ss) (gsB (keyB Ss)).length (lng x) (mcR (gsB (keyB Ss)) x) ∧ (mcR (gsB (keyB Ss)) x).1.length ≤ 2 ^ (2 * x.cnt)) → ∀ (a : Mb) (L : Lg) (c : Nat), MbOk (gK Ss) (gsB (keyB Ss)).length L a → a.1.length ≤ 2 ^ (2 * c) →
    MbOk (gK Ss) (gsB (keyB Ss)).length (fun w => (o = 7 ∧ L w ∧ ∀ x ∈ l, lng x w) ∨ (o = 5 ∧ (L w ∨ ∃ x ∈ l, lng x w))) (mcF (gsB (keyB Ss)) o l (some a)) ∧ (mcF (gsB (keyB Ss)) o l (some a)).1.length ≤ 2 ^ (2 * (c + cnts l))
  | [], _, a, L, c, ha, hc => by
    rw [mcF]
    refine ⟨⟨ha.gm, ha.lm.congr fun w => ?_⟩, by simpa [cnts] using hc⟩
    rcases ho with rfl | rfl <;> simp
  | x :: l, hl, a, L, c, ha, hc => by
    obtain ⟨h1, h2⟩ := hl x (by simp)
    obtain ⟨h3, h4, _⟩ := btR_ok ha h1 o
    rw [mcF]
    have h5 : (btR o (gsB (keyB Ss)).length a (mcR (gsB (keyB Ss)) x)).1.length ≤ 2 ^ (2 * (c + x.cnt)) := by
      refine Nat.le_trans h4 ?_
      rw [Nat.mul_add, Nat.pow_add]
      exact Nat.mul_le_mul hc h2
    obtain ⟨h6, h7⟩ := mcF_ok o ho l (fun y hy => hl y (by simp [hy])) _ _ _ h3 h5
    refine ⟨⟨h6.gm, h6.lm.congr fun w => ?_⟩, by rw [cnts, ← Nat.add_assoc]; exact h7⟩
    rcases ho with rfl | rfl
    · simp [or_assoc]
    · simp [and_assoc]
theorem mcR_ok {Ss : List ByteArray} (r : Rx) : r.wf → r.flat → (∀ S ∈ setsR r, S ∈ Ss) → MbOk (gK Ss) (gsB (keyB Ss)).length (lng r) (mcR (gsB (keyB Ss)) r) ∧ (mcR (gsB (keyB Ss)) r).1.length ≤ 2 ^ (2 * r.cnt) := by
  induction r using Rx.ind with
  | h o S l ih =>
  intro hw hf hS
  obtain ⟨hn, hl⟩ := wf_sub.1 hw
  obtain ⟨hf1, hf2⟩ := flat_sub.1 hf
  rw [mcR]
  by_cases ht : (Rx.mk o S l).tight
  · rw [if_pos ht]
    obtain ⟨h1, h2, _⟩ := plR_ok hw ht hS
    exact ⟨h1, h2⟩
  rw [if_neg ht]
  have ho := not_tight_o hn ht
  have h46 : ¬ (o = 4 ∨ o = 6) := fun h => ht (tight_sub.2 ⟨by omega, by omega, hf1 h⟩)
  replace ih := fun x hx => ih x hx (hl x hx) (hf2 x hx) fun T hT => hS T (by rw [setsR]; exact List.mem_append_right _ (mem_setsRs.2 ⟨x, hx, hT⟩))
  unfold nodeOk at hn
  rw [if_neg (by omega)] at hn
  by_cases h8 : o = 8
  · subst h8
    rw [if_pos rfl]
    obtain ⟨x, rfl⟩ : ∃ x, l = [x] := by
      match l, hn with
      | [x], _ => exact ⟨x, rfl⟩
      | [], hn => simp at hn
      | _ :: _ :: _, hn => simp at hn
    rw [mcH]
    obtain ⟨h1, h2⟩ := ih x (by simp)
    have h3 := notB_ok h1
    refine ⟨⟨h3.gm, h3.lm.congr fun w => ?_⟩, Nat.le_trans h2 (Nat.pow_le_pow_right (by decide) (by rw [cnt_mk, cnts]; omega))⟩
    rw [lng_mk]; simp [opL]
  · rw [if_neg h8]
    match l, hn, ih with
    | [], hn, _ => simp at hn; omega
    | x :: l, hn, ih =>
      obtain ⟨h1, h2⟩ := ih x (by simp)
      obtain ⟨h3, h4⟩ := mcF_ok (Ss := Ss) o (by omega) l (fun y hy => ih y (by simp [hy])) _ _ _ h1 h2
      rw [mcF]
      refine ⟨⟨h3.gm, h3.lm.congr fun w => ?_⟩, Nat.le_trans h4 (Nat.pow_le_pow_right (by decide) (by rw [cnt_mk, cnts]; omega))⟩
      rw [lng_mk]
      rcases (by omega : o = 5 ∨ o = 7) with rfl | rfl
      · simp [opL]
        refine or_congr Iff.rfl ⟨fun ⟨y, h5, h6⟩ => ⟨_, ⟨y, h5, rfl⟩, h6⟩, fun ⟨L, ⟨y, h5, h6⟩, h7⟩ => ⟨y, h5, by rw [h6]; exact h7⟩⟩
      · simp [opL]
end Go.Ab
set_option maxHeartbeats 4000000
namespace Go.Ab
open Go Go.Ab Go.Proofs

section
variable {κ : Type} [DecidableEq κ]
def cnK (K : Nat → κ) (i x : Nat) : Nat := ((List.range i).filter fun j => decide (grN K j = x)).length
def mnK (K : Nat → κ) (i : Nat) : List Nat := (List.range (fsN K i).length).map (cnK K i)
theorem mnK_len (K : Nat → κ) (i : Nat) : (mnK K i).length = (fsN K i).length := by simp [mnK]
theorem cnK_s (K : Nat → κ) (i x : Nat) : cnK K (i + 1) x = cnK K i x + if grN K i = x then 1 else 0 := by
  unfold cnK
  rw [List.range_succ, List.filter_append, List.length_append]
  congr 1
  by_cases h : grN K i = x <;> simp [h]
theorem cnK_out (K : Nat → κ) (i x : Nat) (h : (fsN K i).length ≤ x) : cnK K i x = 0 := by
  unfold cnK
  rw [List.length_eq_zero_iff, List.filter_eq_nil_iff]
  intro j hj
  have := grN_lt K (List.mem_range.1 hj)
  simp; omega
theorem cnK_le (K : Nat → κ) (i x : Nat) : cnK K i x ≤ i := by
  unfold cnK
  refine Nat.le_trans (List.length_filter_le ..) (by simp)
theorem mnK_get (K : Nat → κ) {i x : Nat} (h : x < (fsN K i).length) : (mnK K i)[x]? = some (cnK K i x) := by
  unfold mnK; rw [List.getElem?_map, List.getElem?_range h]; rfl
theorem mnK_new (K : Nat → κ) {i : Nat} (h : ¬ K i ∈ (fsN K i).map K) : mnK K (i + 1) = mnK K i ++ [1] := by
  have hg := grN_new K i h
  have hf : fsN K (i + 1) = fsN K i ++ [i] := by rw [fsN, if_neg h]
  unfold mnK
  rw [hf, List.length_append, List.length_singleton, List.range_succ, List.map_append]
  congr 1
  · refine List.map_congr_left fun x hx => ?_
    rw [cnK_s, if_neg (by have := List.mem_range.1 hx; omega), Nat.add_zero]
  · simp only [List.map_cons, List.map_nil]
    rw [cnK_s, if_pos hg, cnK_out K i _ (Nat.le_refl _)]
theorem mnK_old (K : Nat → κ) {i : Nat} (h : K i ∈ (fsN K i).map K) : mnK K (i + 1) = (mnK K i).set (grN K i) (cnK K i (grN K i) + 1) := by
  have hf : fsN K (i + 1) = fsN K i := by rw [fsN, if_pos h]
  unfold mnK
  rw [hf]
  refine List.ext_getElem (by simp) fun x h1 h2 => ?_
  simp only [List.getElem_map, List.getElem_range, List.getElem_set, cnK_s]
  by_cases e : grN K i = x
  · subst e; simp
  · simp [e]
theorem grN_eq (K : Nat → κ) {i x : Nat} (hx : x < (fsN K i).length) (h : K ((fsN K i)[x]) = K i) : grN K i = x := by
  have hm : K i ∈ (fsN K i).map K := List.mem_map.2 ⟨_, List.getElem_mem hx, h⟩
  obtain ⟨j, h1, h2, h3⟩ := grN_at K (Nat.lt_succ_self i)
  rw [fsN, if_pos hm] at h1
  obtain ⟨hl, he⟩ := List.getElem?_eq_some_iff.1 h1
  have hn := List.pairwise_iff_getElem.1 (fsN_nodup K i)
  have e1 : ((fsN K i).map K)[grN K i]'(by simpa using hl) = K i := by rw [List.getElem_map, he, h3]
  have e2 : ((fsN K i).map K)[x]'(by simpa using hx) = K i := by rw [List.getElem_map, h]
  rcases Nat.lt_trichotomy (grN K i) x with hlt | hlt | hlt
  · exact absurd (e1.trans e2.symm) (hn _ _ (by simpa using hl) (by simpa using hx) hlt)
  · exact hlt
  · exact absurd (e2.trans e1.symm) (hn _ _ (by simpa using hx) (by simpa using hl) hlt)
end
end Go.Ab
