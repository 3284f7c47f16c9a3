/- From the arguments as they are read to abstract values; from what a law's function gives to the law's row. -/
import Derived.ProofKit
import Derived.OpenShut
import Derived.Test.YthgicbkdckpeaaaDoorG09
set_option linter.unusedSimpArgs false
set_option linter.unusedVariables false
namespace Go.Ab
open Go Go.RowKit Go.ChangeShapes Go.WideShapes Go.ChangeAt

def mkEl (agg : Bool) (part : List AV) : AV := if agg then .agg part else part.getD 0 .bad

def Sh (P : Program) : Nat → TypeId → List AV → Prop
  | 0, _, _ => False
  | f + 1, t, as => match P.underlying t with
    | some .bool => ∃ b, as = [.bool b]
    | some (.int k) => ∃ n, as = [.base (.int k n)] ∧ k.min ≤ n ∧ n ≤ k.max
    | some .string => ∃ s : ByteArray, as = [.base (.string s)] ∧ s.size ≤ maxLen
    | some (.slice e) => ∃ (parts : List (List AV)), as = [.lst (parts.map (mkEl (aggTy P e == some true)))] ∧ parts.length ≤ maxLen ∧ ∀ p ∈ parts, p.length = P.cellsOf e ∧ Sh P f e p
    | some (.struct fs) => ∃ parts : List (List AV), parts.length = fs.size ∧ as = parts.flatten ∧ ∀ (i : Nat) (fd : Field) (p : List AV), fs[i]? = some fd → parts[i]? = some p → p.length = P.cellsOf fd.type ∧ Sh P f fd.type p
    | some (.array n e) => ∃ parts : List (List AV), parts.length = n ∧ as = parts.flatten ∧ ∀ p ∈ parts, p.length = P.cellsOf e ∧ Sh P f e p
    | _ => False

def tiles (P : Program) : List Field → Nat → Nat → Bool
  | [], off, tot => off == tot
  | f :: fs, off, tot => f.offset == off && tiles P fs (off + P.cellsOf f.type) tot

def plainTys (P : Program) (S : List TypeId) : Bool :=
  S.all fun t => match P.underlying t with
    | some .bool | some (.int _) | some .string => P.cellsOf t == 1
    | some (.slice e) => S.contains e && Nat.blt 0 (P.cellsOf e) && P.cellsOf t == 1
    | some (.struct fs) => fs.toList.all (fun f => S.contains f.type) && tiles P fs.toList 0 (P.cellsOf t)
    | some (.array n e) => S.contains e && n * P.cellsOf e == P.cellsOf t
    | _ => false

abbrev noO : Nat → Prop := fun _ => False

section
variable {H : Type} {enc : TypeId × Value → H} {P : Program} {w : World} {spare : Nat → Bool} {held : Bool}

def VRs (w : World) (as : List AV) (cs : List Value) : Prop := as.length = cs.length ∧ ∀ (j : Nat) (a : AV) (u : Value), as[j]? = some a → cs[j]? = some u → VR w noO noB [] a u

theorem VRs.append {as bs : List AV} {cs ds : List Value} (h : VRs w as cs) (k : VRs w bs ds) : VRs w (as ++ bs) (cs ++ ds) := by
  refine ⟨by simp [h.1, k.1], fun j a u ha hu => ?_⟩
  rw [List.getElem?_append] at ha hu
  rw [h.1] at ha
  split at ha
  · rename_i hj; rw [if_pos hj] at hu; exact h.2 j a u ha hu
  · rename_i hj; rw [if_neg hj] at hu; exact k.2 _ a u ha hu

theorem mkEl_cells {agg : Bool} {p : List AV} (h : agg = true ∨ (∃ c, p = [c] ∧ isAggA c = false)) : (mkEl agg p).cells = p := by
  rcases h with rfl | ⟨c, rfl, hc⟩
  · rfl
  · cases agg with
    | true => rfl
    | false => show c.cells = [c]; cases c <;> first | rfl | (simp [isAggA] at hc)

theorem Sh.one {f : Nat} {t : TypeId} {p : List AV} (h : Sh P f t p) (ha : aggTy P t ≠ some true) : ∃ c, p = [c] ∧ isAggA c = false := by
  cases f with
  | zero => exact h.elim
  | succ f =>
    unfold Sh at h
    unfold aggTy at ha
    split at h
    · obtain ⟨b, rfl⟩ := h; exact ⟨_, rfl, rfl⟩
    · obtain ⟨n, rfl, _⟩ := h; exact ⟨_, rfl, rfl⟩
    · obtain ⟨s, rfl, _⟩ := h; exact ⟨_, rfl, rfl⟩
    · obtain ⟨ps, rfl, _⟩ := h; exact ⟨_, rfl, rfl⟩
    · rename_i hu; simp [hu] at ha
    · rename_i hu; simp [hu] at ha
    · exact h.elim

theorem Sh.mk_cells {f : Nat} {t : TypeId} {p : List AV} (h : Sh P f t p) : (mkEl (aggTy P t == some true) p).cells = p := by
  by_cases ha : aggTy P t = some true
  · exact mkEl_cells (.inl (by simp [ha]))
  · exact mkEl_cells (.inr (h.one ha))

theorem tiles_build {f : Nat} : ∀ (fs : List Field) (off tot : Nat) (cs : List Value), tiles P fs off tot = true → cs.length = tot → off ≤ tot →
    (∀ fd ∈ fs, ∃ as, VRs w as ((cs.drop fd.offset).take (P.cellsOf fd.type)) ∧ as.length = P.cellsOf fd.type ∧ Sh P f fd.type as) →
    ∃ parts : List (List AV), parts.length = fs.length ∧ VRs w parts.flatten (cs.drop off) ∧ ∀ (i : Nat) (fd : Field) (p : List AV), fs[i]? = some fd → parts[i]? = some p → p.length = P.cellsOf fd.type ∧ Sh P f fd.type p
  | [], off, tot, cs, ht, hl, ho, h => by
    simp only [tiles, beq_iff_eq] at ht
    subst ht
    exact ⟨[], rfl, by rw [List.drop_eq_nil_of_le (by omega)]; exact ⟨rfl, by simp⟩, by simp⟩
  | fd :: fs, off, tot, cs, ht, hl, ho, h => by
    simp only [tiles, Bool.and_eq_true, beq_iff_eq] at ht
    obtain ⟨ho1, ht1⟩ := ht
    obtain ⟨as, h1, h2, h3⟩ := h fd (by simp)
    subst ho1
    have hlen := h1.1
    rw [h2, List.length_take, List.length_drop] at hlen
    obtain ⟨parts, k1, k2, k3⟩ := tiles_build fs (fd.offset + P.cellsOf fd.type) tot cs ht1 hl (by omega) (fun fd' h' => h fd' (by simp [h']))
    refine ⟨as :: parts, by simp [k1], ?_, fun i fd' p hi hp => ?_⟩
    · have := h1.append k2
      rw [← List.drop_drop] at this
      rw [List.take_append_drop] at this
      simpa using this
    · cases i with
      | zero => simp at hi hp; subst hi; subst hp; exact ⟨h2, h3⟩
      | succ i => exact k3 i fd' p (by simpa using hi) (by simpa using hp)

theorem array_build {f n : Nat} {e : TypeId} {s : Nat} : ∀ (m k : Nat) (cs : List Value), cs.length = n * s → k + m = n →
    (∀ i, i < n → ∃ as, VRs w as ((cs.drop (i * s)).take s) ∧ as.length = s ∧ Sh P f e as) →
    ∃ parts : List (List AV), parts.length = m ∧ VRs w parts.flatten (cs.drop (k * s)) ∧ ∀ p ∈ parts, p.length = s ∧ Sh P f e p
  | 0, k, cs, hl, hk, h => ⟨[], rfl, by rw [List.drop_eq_nil_of_le (by rw [hl]; exact Nat.mul_le_mul_right _ (by omega))]; exact ⟨rfl, by simp⟩, by simp⟩
  | m + 1, k, cs, hl, hk, h => by
    obtain ⟨as, h1, h2, h3⟩ := h k (by omega)
    obtain ⟨parts, k1, k2, k3⟩ := array_build m (k + 1) cs hl (by omega) h
    refine ⟨as :: parts, by simp [k1], ?_, fun p hp => ?_⟩
    · have := h1.append k2
      rw [Nat.add_mul, Nat.one_mul, ← List.drop_drop, List.take_append_drop] at this
      simpa using this
    · rcases List.mem_cons.1 hp with rfl | hp
      · exact ⟨h2, h3⟩
      · exact k3 p hp

theorem trod_sh {S : List TypeId} (hS : plainTys P S = true) : ∀ (fuel : Nat) (t : TypeId) (cs : List Value) (x : DataW H × List MemPlace), t ∈ S → DataW.trod enc P w 0 spare held fuel t cs = some x →
    ∃ as, VRs w as cs ∧ as.length = P.cellsOf t ∧ Sh P fuel t as := by
  intro fuel
  induction fuel with
  | zero => intro t cs x _ h; simp [DataW.trod] at h
  | succ fuel ih =>
    intro t cs x ht h
    have hSt := List.all_eq_true.1 hS t ht
    have hone : ∀ (a : AV) (u : Value), VR w noO noB [] a u → VRs w [a] [u] := fun a u hv => ⟨rfl, fun j b v hb hv' => by
      cases j with
      | zero => simp at hb hv'; subst hb; subst hv'; exact hv
      | succ j => simp at hb⟩
    split at hSt
    · rename_i hu
      obtain ⟨b, rfl, _⟩ := DataW.trod_bool hu h
      exact ⟨[.bool b], hone _ _ (.base _), (beq_iff_eq.1 hSt).symm, by unfold Sh; rw [hu]; exact ⟨b, rfl⟩⟩
    · rename_i k hu
      obtain ⟨n, rfl, _, hwf⟩ := DataW.trod_int hu h
      refine ⟨[.base (.int k n)], hone _ _ (.base _), (beq_iff_eq.1 hSt).symm, by unfold Sh; rw [hu]; simp only [Lit.wf, Bool.and_eq_true, decide_eq_true_eq] at hwf; exact ⟨n, rfl, hwf.1, hwf.2⟩⟩
    · rename_i hu
      obtain ⟨s, rfl, _, hs⟩ := DataW.trod_string hu h
      exact ⟨[.base (.string s)], hone _ _ (.base _), (beq_iff_eq.1 hSt).symm, by unfold Sh; rw [hu]; exact ⟨s, rfl, hs⟩⟩
    · rename_i e hu
      simp only [Bool.and_eq_true, Nat.blt_eq, beq_iff_eq] at hSt
      obtain ⟨⟨heS, hpos⟩, hct⟩ := hSt
      have heS : e ∈ S := by simpa using heS
      rcases DataW.trod_slice hu h with ⟨rfl, _⟩ | ⟨a, len, cap, elems, rest, n, hn, rfl, _, hb, hl, hm, hlen, hel, _, _⟩
      · exact ⟨[.lst []], hone _ _ .lnil, hct.symm, by unfold Sh; rw [hu]; exact ⟨[], rfl, by simp, by simp⟩⟩
      · have hn' : n = fuel := by omega
        subst hn'
        have hex : ∀ i, i < len → ∃ (cs' : List Value) (as : List AV), w.cells? 0 (a.add (i * P.cellsOf e)) (P.cellsOf e) = some cs' ∧ VRs w as cs' ∧ as.length = P.cellsOf e ∧ Sh P n e as := by
          intro i hi
          have h1 := hel i hi
          have h2 : elems[i]? = some elems[i] := List.getElem?_eq_getElem (by omega)
          rw [h2, Option.bind_eq_some_iff] at h1
          obtain ⟨cs', h3, h4⟩ := h1
          obtain ⟨as, h5, h6, h7⟩ := ih e cs' _ heS h4
          exact ⟨cs', as, h3, h5, h6, h7⟩
        let g : Nat → List AV := fun i => if hi : i < len then Classical.choose (Classical.choose_spec (hex i hi)) else []
        have hg : ∀ i, i < len → ∃ cs', w.cells? 0 (a.add (i * P.cellsOf e)) (P.cellsOf e) = some cs' ∧ VRs w (g i) cs' ∧ (g i).length = P.cellsOf e ∧ Sh P n e (g i) := by
          intro i hi
          simp only [g, dif_pos hi]
          exact ⟨_, Classical.choose_spec (Classical.choose_spec (hex i hi))⟩
        have hsp : 0 < len → a.spot = none := by
          intro h0
          obtain ⟨cs', h3, _⟩ := hg 0 h0
          obtain ⟨_, hl', hc⟩ := World.cells?_some h3
          have := hc 0 hpos
          have hex : ∃ u, w.cell? a = some u := ⟨cs'[0], by
            rw [Nat.zero_mul] at this
            have e1 : (a.add 0).add 0 = a := by simp [Addr.add]
            rw [e1] at this
            rw [this]; exact List.getElem?_eq_getElem (by omega)⟩
          obtain ⟨u, hu⟩ := hex
          unfold World.cell? at hu
          split at hu
          · split at hu
            · cases hu
            · rename_i hs; simpa using hs
          · cases hu
        refine ⟨[.lst (((List.range len).map g).map (mkEl (aggTy P e == some true)))], hone _ _ ?_, hct.symm, ?_⟩
        · have hgi : ∀ i x, (((List.range len).map g).map (mkEl (aggTy P e == some true)))[i]? = some x → i < len ∧ x = mkEl (aggTy P e == some true) (g i) := by
            intro i x hx
            simp only [List.getElem?_map, Option.map_eq_some_iff] at hx
            obtain ⟨p, ⟨q, hq, rfl⟩, rfl⟩ := hx
            have hi : i < len := by
              rcases Nat.lt_or_ge i len with h' | h'
              · exact h'
              · rw [List.getElem?_eq_none (by simpa using h')] at hq; cases hq
            rw [List.getElem?_range hi] at hq
            injection hq with hq; subst hq
            exact ⟨hi, rfl⟩
          have hat : ∀ (i j : Nat) (x c : AV), (((List.range len).map g).map (mkEl (aggTy P e == some true)))[i]? = some x → x.cells[j]? = some c → ∃ u, w.cell? ⟨a.block, a.off + i * P.cellsOf e + j, none⟩ = some u ∧ VR w noO noB [] c u := by
            intro i j x c hx hc
            obtain ⟨hi, rfl⟩ := hgi i x hx
            obtain ⟨cs', h3, h4, h5, h6⟩ := hg i hi
            rw [h6.mk_cells] at hc
            obtain ⟨_, hl', hcell⟩ := World.cells?_some h3
            have hj : j < P.cellsOf e := by rw [← h5]; exact (List.getElem?_eq_some_iff.1 hc).1
            have h7 := hcell j hj
            have hsp' := hsp (by omega)
            rw [add_eq a _ hsp', add_eq _ _ rfl, List.getElem?_eq_getElem (by omega)] at h7
            exact ⟨_, h7, h4.2 j c _ hc (List.getElem?_eq_getElem (by omega))⟩
          refine .lst _ a len cap (P.cellsOf e) (fun i j => (w.cell? ⟨a.block, a.off + i * P.cellsOf e + j, none⟩).getD undef) (by simp) hl (by omega) (fun x hx => ?_) (fun x hx => ?_) (fun i j x c hx hc => ?_) fun i j x c hx hc => ?_
          · obtain ⟨i, hi, rfl⟩ := List.mem_iff_getElem.1 hx
            obtain ⟨h8, h9⟩ := hgi i _ (List.getElem?_eq_getElem hi)
            obtain ⟨_, _, _, h5, h6⟩ := hg i h8
            rw [h9, h6.mk_cells, h5]
          · obtain ⟨i, hi, rfl⟩ := List.mem_iff_getElem.1 hx
            obtain ⟨h8, _⟩ := hgi i _ (List.getElem?_eq_getElem hi)
            exact hsp (by omega)
          · obtain ⟨u, hu, _⟩ := hat i j x c hx hc
            exact ⟨fun h => h, by rw [hu]; rfl⟩
          · obtain ⟨u, hu, hv⟩ := hat i j x c hx hc
            simpa only [hu, Option.getD_some] using hv
        · unfold Sh
          rw [hu]
          refine ⟨(List.range len).map g, rfl, by simp; omega, fun p hp => ?_⟩
          obtain ⟨i, hi, rfl⟩ := List.mem_map.1 hp
          obtain ⟨_, _, _, h5, h6⟩ := hg i (by simpa using hi)
          exact ⟨h5, h6⟩
    · rename_i fs hu
      simp only [Bool.and_eq_true] at hSt
      obtain ⟨hfS, htl⟩ := hSt
      obtain ⟨xs, n, hn, _, hl, hxl, hf⟩ := DataW.trod_struct hu h
      have hn' : n = fuel := by omega
      subst hn'
      obtain ⟨parts, k1, k2, k3⟩ := tiles_build (f := n) fs.toList 0 (P.cellsOf t) cs htl hl (Nat.zero_le _) (fun fd hfd => by
        obtain ⟨i, hi, rfl⟩ := List.mem_iff_getElem.1 hfd
        have hfs : fs[i]? = some fs.toList[i] := by rw [← Array.getElem?_toList]; exact List.getElem?_eq_getElem hi
        have h1 := hf i _ hfs
        rw [List.getElem?_eq_getElem (show i < xs.length by rw [hxl]; simpa using hi)] at h1
        have hmem : fs.toList[i].type ∈ S := by
          have := List.all_eq_true.1 hfS _ (List.getElem_mem hi)
          simpa using this
        exact ih _ _ _ hmem h1)
      rw [List.drop_zero] at k2
      refine ⟨parts.flatten, k2, by rw [k2.1, hl], ?_⟩
      unfold Sh
      rw [hu]
      exact ⟨parts, by simpa using k1, rfl, fun i fd p hi hp => k3 i fd p (by rw [Array.getElem?_toList]; exact hi) hp⟩
    · rename_i n e hu
      simp only [Bool.and_eq_true, beq_iff_eq] at hSt
      obtain ⟨heS, hct⟩ := hSt
      have heS : e ∈ S := by simpa using heS
      obtain ⟨xs, m, hm, _, hl, hxl, hf⟩ := DataW.trod_array hu h
      have hm' : m = fuel := by omega
      subst hm'
      obtain ⟨parts, k1, k2, k3⟩ := array_build (f := m) (n := n) (e := e) (s := P.cellsOf e) n 0 cs (by rw [hl, hct]) (by omega) (fun i hi => by
        have h1 := hf i hi
        rw [List.getElem?_eq_getElem (show i < xs.length by omega)] at h1
        exact ih _ _ _ heS h1)
      rw [Nat.zero_mul, List.drop_zero] at k2
      refine ⟨parts.flatten, k2, by rw [k2.1, hl], ?_⟩
      unfold Sh
      rw [hu]
      exact ⟨parts, k1, rfl, k3⟩
    · cases hSt

def ShV (P : Program) (t : TypeId) (a : AV) : Prop := ∃ fuel p, Sh P fuel t p ∧ p.length = P.cellsOf t ∧ a = mkEl (aggTy P t == some true) p

theorem arg_sh {S : List TypeId} (hS : plainTys P S = true) {t : TypeId} {v : Value} {base : Nat} {d : DataW H} {ps : List MemPlace} (ht : t ∈ S) (hok : Value.okWide P w .any base t v) (h : DataW.Trod enc P w 0 spare held t v d ps) :
    ∃ a, VR w noO noB [] a v ∧ ShV P t a := by
  obtain ⟨fuel, h⟩ := h
  obtain ⟨as, h1, h2, h3⟩ := trod_sh hS fuel t _ _ ht h
  refine ⟨mkEl (aggTy P t == some true) as, ?_, fuel, as, h3, h2, rfl⟩
  unfold Value.okWide at hok
  by_cases ha : aggTy P t = some true
  · have hv : ∃ cs, v = .agg cs := by
      unfold aggTy at ha
      split at ha
      · rename_i hu; rw [hu] at hok; obtain ⟨cs, rfl, _⟩ := hok; exact ⟨cs, rfl⟩
      · rename_i hu; rw [hu] at hok; obtain ⟨cs, rfl, _⟩ := hok; exact ⟨cs, rfl⟩
      · cases ha
      · cases ha
    obtain ⟨cs, rfl⟩ := hv
    simp only [Value.cells] at h1
    rw [show mkEl (aggTy P t == some true) as = .agg as by simp [mkEl, ha]]
    exact .agg as cs (by have := h1.1; simp at this; exact this.symm) fun j c u hc hu => h1.2 j c u hc (by simpa using hu)
  · obtain ⟨c, rfl, hc⟩ := h3.one ha
    have hlen := h1.1
    have hvc : v.cells = #[v] := by
      have hSt := List.all_eq_true.1 hS t ht
      split at hSt
      · rename_i hu; obtain ⟨x, rfl, _⟩ := open_bool hu hok ⟨fuel, h⟩; rfl
      · rename_i k hu; obtain ⟨x, rfl, _⟩ := open_int hu hok ⟨fuel, h⟩; rfl
      · rename_i hu; obtain ⟨x, rfl, _⟩ := ChangeMaps.open_string hu hok ⟨fuel, h⟩; rfl
      · rename_i e hu; obtain ⟨a0, len, cap, rfl⟩ := okWide_slice hu hok; rfl
      · rename_i fs hu; exact absurd (by simp [aggTy, hu]) ha
      · rename_i n e hu; exact absurd (by simp [aggTy, hu]) ha
      · cases hSt
    rw [show mkEl (aggTy P t == some true) [c] = c by simp [mkEl, ha]]
    exact h1.2 0 c v rfl (by rw [hvc]; rfl)

theorem args_sh {S : List TypeId} (hS : plainTys P S = true) {base : Nat} : ∀ (ts : List TypeId) (vs : List Value) (ds : List (DataW H)) (ps : List MemPlace), (∀ t ∈ ts, t ∈ S) → (∀ (j : Nat) t v, ts[j]? = some t → vs[j]? = some v → Value.okWide P w .any base t v) →
    DataW.TrodAll enc P w 0 spare held ts vs ds ps → vs.length = ts.length ∧ ∃ as : List AV, VRs w as vs ∧ ∀ (j : Nat) t a, ts[j]? = some t → as[j]? = some a → ShV P t a
  | [], [], [], ps, _, _, _ => ⟨rfl, [], ⟨rfl, by simp⟩, by simp⟩
  | t :: ts, v :: vs, d :: ds, ps, hts, hok, h => by
    obtain ⟨p, q, h1, h2, _⟩ := h
    obtain ⟨hl, as, h3, h4⟩ := args_sh hS ts vs ds q (fun t ht => hts t (by simp [ht])) (fun j t v ht hv => hok (j + 1) t v (by simpa using ht) (by simpa using hv)) h2
    obtain ⟨a, h5, h6⟩ := arg_sh hS (hts t (by simp)) (hok 0 t v rfl rfl) h1
    refine ⟨by simp [hl], a :: as, ⟨by simp [h3.1], fun j b u hb hu => ?_⟩, fun j t' b ht' hb => ?_⟩
    · cases j with
      | zero => simp at hb hu; subst hb; subst hu; exact h5
      | succ j => exact h3.2 j b u (by simpa using hb) (by simpa using hu)
    · cases j with
      | zero => simp at ht' hb; subst ht'; subst hb; exact h6
      | succ j => exact h4 j t' b (by simpa using ht') (by simpa using hb)
  | [], [], _ :: _, _, _, _, h => h.elim
  | [], _ :: _, _, _, _, _, h => h.elim
  | _ :: _, [], _, _, _, _, h => h.elim
  | _ :: _, _ :: _, [], _, _, _, h => h.elim

theorem trodAll_below (hl : laidOutB P = true) {w' : World} (hb : Below w.heap.size w w') : ∀ (ts : List TypeId) (vs : List Value) (ds : List (DataW H)) (ps : List MemPlace), (∀ t ∈ ts, P.readableRec t = true ∧ t < P.types.size) → (∀ x ∈ ps, x.block < w.heap.size) →
    DataW.TrodAll enc P w 0 (fun _ => true) true ts vs ds ps → DataW.TrodAll enc P w' 0 (fun b => decide (b < w.heap.size)) true ts vs ds ps
  | [], [], [], ps, _, _, h => h
  | t :: ts, v :: vs, d :: ds, ps, hts, hlt, h => by
    obtain ⟨p, q, h1, h2, rfl⟩ := h
    obtain ⟨k1, k2⟩ := hts t (by simp)
    exact ⟨p, q, Below.trod hl k1 k2 h1 hb fun x hx => hlt x (by simp [hx]), trodAll_below hl hb ts vs ds q (fun t ht => hts t (by simp [ht])) (fun x hx => hlt x (by simp [hx])) h2, rfl⟩
  | [], [], _ :: _, _, _, _, h => h.elim
  | [], _ :: _, _, _, _, _, h => h.elim
  | _ :: _, [], _, _, _, _, h => h.elim
  | _ :: _, _ :: _, [], _, _, _, h => h.elim

theorem law_contractM {m : List (Nat × Obj)} {f : FuncId} {fn : Func} {s : ChangeSpec} {S : List TypeId} {tb : TypeId} (hl : laidOutB P = true) (hS : plainTys P S = true) (hpar : fn.params.toList.all (fun t => S.contains t && P.readableRec t && Nat.blt t P.types.size) = true)
    (hres : fn.resultTypes = #[tb]) (htb : P.underlying tb = some .bool) (hsv : s.vars = []) (hspec : ∀ (ds : List (DataW H)), ds.length = fn.params.size → s.fn H ds = { results := [.lit (.bool true)], args := ds })
    (hFn : ∀ as : List AV, as.length = fn.params.size → (∀ (j : Nat) t a, fn.params[j]? = some t → as[j]? = some a → ShV P t a) → FnM P m f as (.bool true))
    (W : World) (base : Nat) (args : Array Value) (ds gs : List (DataW H)) (before : List MemPlace)
    (hval : ∀ (j : Nat) t v, fn.params[j]? = some t → args[j]? = some v → Value.okWide P W .any base t v)
    (hW : DataW.Whole enc P fn.params.toList s.vars false W args.toList ds gs before) :
    (∀ p ∈ m, W.heap[p.1]? = some p.2) → Calls P f args W fun e W' => ∃ v, e = .returned v ∧ s.post enc P fn false true false false W args v W' := by
  intro hm
  have hW' := hW
  obtain ⟨p, q, hA, hV, rfl, hfz, hnd⟩ := hW
  rw [hsv] at hV
  obtain ⟨rfl, rfl⟩ := trodVars_none hV
  have hp : ∀ t ∈ fn.params.toList, t ∈ S ∧ P.readableRec t = true ∧ t < P.types.size := by
    intro t ht
    have := List.all_eq_true.1 hpar t ht
    simp only [Bool.and_eq_true, Nat.blt_eq] at this
    exact ⟨by simpa using this.1.1, this.1.2, this.2⟩
  obtain ⟨hlen, as, h1, h2⟩ := args_sh hS fn.params.toList args.toList ds p (fun t ht => (hp t ht).1) (fun j t v ht hv => hval j t v (by rwa [Array.getElem?_toList] at ht) (by rwa [Array.getElem?_toList] at hv)) hA
  have hal : as.length = fn.params.size := by rw [h1.1, hlen]; simp
  have hdl : ds.length = fn.params.size := by
    have : ∀ (ts : List TypeId) (vs : List Value) (ds : List (DataW H)) (ps : List MemPlace), DataW.TrodAll enc P W 0 (fun _ => true) true ts vs ds ps → ds.length = ts.length := by
      intro ts
      induction ts with
      | nil => intro vs ds ps h; match vs, ds, h with | [], [], _ => rfl
      | cons t ts ih =>
        intro vs ds ps h
        match vs, ds, h with
        | v :: vs, d :: ds, ⟨p, q, _, h2, _⟩ => simp [ih vs ds q h2]
    rw [this _ _ _ _ hA]; simp
  obtain ⟨_, hF⟩ := hFn as hal fun j t a ht ha => h2 j t a (by rw [Array.getElem?_toList]; exact ht) ha
  refine (hF W noO args (fun p hp => ⟨id, hm p hp⟩) (fun _ h => h.elim) (by rw [hal]; simpa using hlen) fun j a u ha hu => h1.2 j a u ha (by rw [Array.getElem?_toList]; exact hu)).mono ?_
  rintro e W' ⟨v, rfl, hv, hb⟩
  have hv := hv.base_inv
  subst hv
  have hlt : ∀ x ∈ p, x.block < W.heap.size := fun x hx => by simpa using hW'.lt x (by simp [hx])
  refine ⟨_, rfl, ds ++ [], [], p ++ [], [], p ++ [], [], ?_, ?_, ?_, ?_, hb.frame _, fun h => by cases h⟩
  · simpa using hW'
  · rw [hspec _ (by simpa using hdl), hres]
    exact trodAll_mk1 (shut_bool htb true)
  · rw [hspec _ (by simpa using hdl)]
    simpa using trodAll_below hl hb fn.params.toList args.toList ds p (fun t ht => (hp t ht).2) hlt hA
  · rw [hspec _ (by simpa using hdl), hsv]
    rfl
end
end Go.Ab
namespace Go.Ab
open Go Go.RowKit

section
variable {P : Program} {n : Fr} {K : ASt → Prop} {Q : Exit → ASt → Prop} {s : ASt}

theorem AWp.learn {c : Code} (t : Nat) {es : List AV} (h : lk s.env t = .lst es) (k : es.length ≤ 9223372036854775807 → AWp P n c Q s) : AWp P n c Q s := by
  intro w0 O ι a w hs
  have h1 := hs.vals t
  rw [h] at h1
  refine k ?_ w0 O ι a w hs
  generalize a.tmps.getD t undef = X at h1
  cases h1 with
  | lnil => simp
  | lst es a n cap s val hn hcap hmax hlen hspot hc hv => simp only [maxLen] at hmax; omega

theorem Pu_mapInt (l : List Int) : Pu (.lst (l.map .int)) := .lst fun e he c hc => by
  obtain ⟨x, _, rfl⟩ := List.mem_map.1 he
  simp [AV.cells] at hc; subst hc; exact .base _
end

end Go.Ab
namespace Go.Ab
attribute [go_sem] if_true if_false and_true true_and and_self
end Go.Ab
namespace Go.Ab
theorem cast_zero : ((0 : Nat) : Int) = 0 := rfl
theorem cast_one : ((1 : Nat) : Int) = 1 := rfl
attribute [go_sem] cast_zero cast_one
end Go.Ab
namespace Go.Ab
attribute [go_sem] List.set_cons_zero List.set_cons_succ List.cons_append List.nil_append List.length_cons List.length_nil List.getElem?_cons_zero List.getElem?_cons_succ List.take_succ_cons List.take_zero List.drop_succ_cons List.drop_zero
end Go.Ab
namespace Go.Ab
open Go Go.RowKit

section
variable {P : Program} {H : List ABlk}
theorem Lend.clo {f : FuncId} {cs ds : List AV} (hl : cs.length = ds.length) (h : ∀ (j : Nat) (c d : AV), cs[j]? = some c → ds[j]? = some d → Lend H c d) : Lend H (.clo f cs) (.clo f ds) := fun w0 w O ι u hs hu => by
  cases hu with
  | clo f cs arr hlen hh =>
  refine .clo f ds arr (hlen.trans hl) fun j d u hd hu => ?_
  have hj : j < cs.length := by rw [hl]; exact (List.getElem?_eq_some_iff.1 hd).1
  exact h j _ d (List.getElem?_eq_getElem hj) hd w0 w O ι u hs (hh j _ u (List.getElem?_eq_getElem hj) hu)

def LendL (H : List ABlk) : List AV → List AV → Prop
  | [], [] => True
  | a :: l, b :: m => Lend H a b ∧ LendL H l m
  | _, _ => False
theorem LendL.len : ∀ {l m : List AV}, LendL H l m → l.length = m.length
  | [], [], _ => rfl
  | _ :: l, _ :: m, h => by simp [LendL.len h.2]
theorem LendL.get : ∀ {l m : List AV}, LendL H l m → ∀ (j : Nat) (a b : AV), l[j]? = some a → m[j]? = some b → Lend H a b
  | _ :: l, _ :: m, h, 0, a, b, h1, h2 => by cases h1; cases h2; exact h.1
  | _ :: l, _ :: m, h, j + 1, a, b, h1, h2 => LendL.get h.2 j a b h1 h2

theorem ql_callM {ρ : Operand → AV} {c : Call} {fx : Operand} {f : FuncId} {caps args : List AV} {d : AV} (hc : c.callee = .value fx)
    (hf : ρ fx = .clo f caps) (hl : LendL H (c.args.toList.map ρ ++ caps) args) (hd : Sc d) {m : List (Nat × Obj)} (h : FnM P m f args d) (hm : MemIn m ρ := by exact .inl rfl) : QL P H ρ (.call c) d :=
  ql_callL hc hf hl.len hl.get hd h hm

theorem Lend.iptr {b tot i off : Nat} {blk : ABlk} {e d : AV} (h1 : H[b]? = some blk) (ht : blk.es.length = tot) (he : blk.es[i]? = some e)
    (hl : LendL H e.cells d.cells) : Lend H (.ptr b tot i off) (.iptr d off) := .ptr h1 ht he hl.len hl.get
theorem Lend.agg' {cs ds : List AV} (h : LendL H cs ds) : Lend H (.agg cs) (.agg ds) := .agg h.len h.get
theorem Lend.clo' {f : FuncId} {cs ds : List AV} (h : LendL H cs ds) : Lend H (.clo f cs) (.clo f ds) := .clo h.len h.get

theorem ql_idx {α : Type} {ρ : Operand → AV} {t el : TypeId} {x i : Operand} {k : IntKind} {n : Int} {l : List α} {f : α → AV} (hx : ρ x = .lst (l.map f)) (hi : ρ i = .base (.int k n)) (ht : P.underlying t = some (.slice el))
    (h0 : 0 ≤ n) (he : n.toNat < l.length) (hsz : szTy P el = some (f l[n.toNat]).cells.length) : QL P H ρ (.indexAddr t x i) (.iptr (f (l[n.toNat]'he)) 0) :=
  ql_indexAddr_lst hx hi ht h0 (by rw [List.getElem?_map, List.getElem?_eq_getElem he]; rfl) hsz
end
end Go.Ab
namespace Go.Ab
open Go Go.RowKit
theorem AWp.learnV {P : Program} {n : Fr} {Q : Exit → ASt → Prop} {s : ASt} {c : Code} (t : Nat) {a : AV} {Ψ : Prop} (ha : lk s.env t = a) (h : ∀ (w : World) (O : Nat → Prop) (ι : Nat → Option Nat) (H : List ABlk) (u : Value), VR w O ι H a u → Ψ)
    (k : Ψ → AWp P n c Q s) : AWp P n c Q s := by
  intro w0 O ι a w hs
  have h1 := hs.vals t
  rw [ha] at h1
  exact k (h _ _ _ _ _ h1) w0 O ι a w hs
theorem VR.lst_len {w : World} {O : Nat → Prop} {ι : Nat → Option Nat} {H : List ABlk} {es : List AV} {u : Value} (h : VR w O ι H (.lst es) u) : es.length ≤ 9223372036854775807 := by
  cases h with
  | lnil => simp
  | lst es a n cap s val hn hcap hmax hlen hspot hc hv => simp only [maxLen] at hmax; omega
theorem VR.lst_el {w : World} {O : Nat → Prop} {ι : Nat → Option Nat} {H : List ABlk} {es : List AV} {u : Value} (h : VR w O ι H (.lst es) u) {e c : AV} (he : e ∈ es) {j : Nat} (hj : e.cells[j]? = some c) : ∃ v, VR w O ι H c v := by
  cases h with
  | lnil => cases he
  | lst es a n cap s val hn hcap hmax hlen hspot hc hv =>
    obtain ⟨i, hi, rfl⟩ := List.mem_iff_getElem.1 he
    exact ⟨_, hv i j _ c (List.getElem?_eq_getElem hi) hj⟩
theorem VR.agg_el {w : World} {O : Nat → Prop} {ι : Nat → Option Nat} {H : List ABlk} {cs : List AV} {u : Value} (h : VR w O ι H (.agg cs) u) {c : AV} {j : Nat} (hj : cs[j]? = some c) : ∃ v, VR w O ι H c v := by
  cases h with
  | agg cs arr hlen hh =>
    have : j < arr.size := by rw [hlen]; exact (List.getElem?_eq_some_iff.1 hj).1
    exact ⟨_, hh j c _ hj (Array.getElem?_eq_getElem this)⟩
end Go.Ab
namespace Go.Ab
attribute [go_sem] decide_true decide_false cond_true cond_false eq_self
end Go.Ab
namespace Go.Ab
open Go Go.RowKit
attribute [go_sem] Int.natCast_nonneg Int.toNat_natCast
section
variable {P : Program} {H : List ABlk} {α : Type} {f : α → AV} {l : List α}
theorem ql_slice_pre {ρ : Operand → AV} {t el : TypeId} {x y : Operand} {k : IntKind} {n : Int} {sz : Nat} (hx : ρ x = .lst (l.map f)) (hy : ρ y = .base (.int k n)) (ht : P.underlying t = some (.slice el)) (h0 : 0 ≤ n)
    (hh : n.toNat ≤ l.length) (hsz : szTy P el = some sz) (hes : ∀ e, (f e).cells.length = sz) : QL P H ρ (.slice t x none (some y) none) (.lst ((l.take n.toNat).map f)) := by
  have := ql_slice_lst (P := P) (H := H) (lo := none) (hi := some y) (l := 0) (h := n.toNat) hx ht rfl (by simp [bnd, hy, h0]) (Nat.zero_le _) (by simpa using hh) hsz (by simpa using fun e _ => hes e)
  simpa [List.map_take] using this
end
end Go.Ab
namespace Go.Ab
open Go Go.RowKit
section
variable {P : Program} {H : List ABlk}
theorem ql_callC {ρ : Operand → AV} {c : Call} {fx : Operand} {f : FuncId} {caps as : List AV} {d : AV} {m : List (Nat × Obj)} (h : FnM P m f as d) (hc : c.callee = .value fx)
    (hf : ρ fx = .clo f caps) (ha : c.args.toList.map ρ ++ caps = as) (hp : ∀ a ∈ as, Pu a) (hm : MemIn m ρ := by exact .inl rfl) : QL P H ρ (.call c) d :=
  ql_call hc hf (by rw [ha]; exact hp) (by rw [ha]; exact h) hm
end
attribute [simp] Pu.base Pu_mapInt
end Go.Ab
namespace Go.Ab
open Go Go.RowKit
def nth {α : Type} (d : α) (l : List α) (n : Int) : α := (l[n.toNat]?).getD d
theorem nth_eq {α : Type} {d : α} {l : List α} {n : Nat} (h : n < l.length) : nth d l n = l[n] := by simp [nth, h]
theorem nth_eqI {α : Type} {d : α} {l : List α} {n : Int} (h : n.toNat < l.length) : nth d l n = l[n.toNat] := by simp [nth, h]
section
variable {P : Program} {H : List ABlk}
theorem ql_idxD {α : Type} {ρ : Operand → AV} {t el : TypeId} {x i : Operand} {k : IntKind} {n : Int} {l : List α} {f : α → AV} (d : α) (hx : ρ x = .lst (l.map f)) (hi : ρ i = .base (.int k n)) (ht : P.underlying t = some (.slice el))
    (h0 : 0 ≤ n) (he : n < l.length) (hsz : szTy P el = some (f (nth d l n)).cells.length) : QL P H ρ (.indexAddr t x i) (.iptr (f (nth d l n)) 0) := by
  have he' : n.toNat < l.length := by omega
  rw [nth_eqI he'] at hsz ⊢
  exact ql_idx hx hi ht h0 he' hsz
end
end Go.Ab
namespace Go.Ab
attribute [go_sem] Nat.zero_add Nat.add_zero
end Go.Ab
namespace Go.Ab
theorem beqI (a b : Int) : (a == b) = decide (a = b) := by by_cases h : a = b <;> simp [h]
theorem beqB (a b : Bool) : (a == b) = decide (a = b) := by cases a <;> cases b <;> rfl
attribute [go_sem] beqI beqB
end Go.Ab
namespace Go.Ab
theorem Ret.bool {P : Program} {s : ASt} {rs : List ResultVar} {b b' : Bool} (h : resVals P s rs = some [AV.bool b']) (he : b' = true ↔ b = true) : Ret P rs (.bool b) s :=
  Ret.data h (by rw [Bool.eq_iff_iff.2 he]; rfl) (.base _)
end Go.Ab
namespace Go.Ab
theorem AWp.join {P : Program} {n : Fr} {c d : Code} {Q : Exit → ASt → Prop} {s : ASt} (S2 : ASt) (h1 : AWp P n c (thenQ (fun s' => Wk n s' S2) Q) s) (h2 : AWp P n d Q S2) : AWp P n c (thenQ (AWp P n d Q) Q) s :=
  h1.mono fun e s' hq => by
    cases e with
    | normal => exact h2.weaken hq
    | _ => exact hq
theorem Wk.env2 {n : Fr} {E E2 : Env} {H H2 : List ABlk} (hH : H = H2) (h : WkE E E2) : Wk n ⟨E, H⟩ ⟨E2, H2⟩ := by subst hH; exact .env' h
end Go.Ab
namespace Go.Ab
@[simp] theorem Pu_int1 (x : Int) : Pu (.lst [.int x]) := Pu_mapInt [x]
@[simp] theorem Pu_int2 (x y : Int) : Pu (.lst [.int x, .int y]) := Pu_mapInt [x, y]
end Go.Ab
namespace Go.Ab
theorem LendL.pu {H : List ABlk} : ∀ {cs : List AV}, (∀ c ∈ cs, Pu c) → LendL H cs cs
  | [], _ => trivial
  | c :: l, h => ⟨.pu (h c (by simp)), LendL.pu fun x hx => h x (by simp [hx])⟩
end Go.Ab
