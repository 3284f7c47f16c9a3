/- Part of the proof. -/
import Derived.Test.YthgicbkdckpeaaaDoorG23
set_option linter.unusedSimpArgs false
set_option linter.unusedVariables false
set_option maxHeartbeats 4000000
namespace Go.Ab
open Go Go.Ab Go.Proofs Go.Ab.Ty

def Fst {α : Type} (p : α → Prop) (l : List α) (k : Nat) : Prop := ∀ j, ∀ h : j < l.length, j < k → p l[j]
theorem Fst.zero {α : Type} (p : α → Prop) (l : List α) : Fst p l 0 := fun j _ h => absurd h (Nat.not_lt_zero _)
theorem Fst.succ {α : Type} {p : α → Prop} {l : List α} {k : Nat} (h : Fst p l k) {x : α} (hx : l[k]? = some x) (h2 : p x) : Fst p l (k + 1) := fun j hj hlt => by
  rcases Nat.lt_or_ge j k with h3 | h3
  · exact h j hj h3
  · obtain rfl : j = k := by omega
    rw [List.getElem?_eq_getElem hj] at hx; injection hx with hx
    rw [hx]; exact h2
theorem Fst.all {α : Type} {p : α → Prop} {l : List α} {k : Nat} (h : Fst p l k) (hk : l.length ≤ k) : ∀ x ∈ l, p x := fun x hx => by
  obtain ⟨j, hj, rfl⟩ := List.mem_iff_getElem.1 hx
  exact h j hj (by omega)
theorem gtM {α : Type} {l : List α} {f : α → AV} {k : Nat} (h : k < l.length) : (l.map f)[k]? = some (f l[k]) := by
  rw [List.getElem?_map, List.getElem?_eq_getElem h]; rfl
theorem MvR.ofid {r : Nat → Option Nat} {H : List ABlk} {a : AV} (h : ∀ b, b < H.length → r b = some b) : MvR r H a a := fun H2 w O ι ι2 u v hu => hu.mono
  ⟨fun _ _ _ h => h, fun p c h1 _ => h1, fun b blk hb => by
      obtain ⟨blk2, e1, e2, e3, e4⟩ := v b b blk (h b (List.getElem?_eq_some_iff.1 hb).1) hb
      exact ⟨blk2, e1, Nat.le_of_eq e2.symm, fun _ => ⟨e3, e4⟩⟩,
   fun b x blk blk' c ty fz _ _ _ _ h => ⟨c, ty, fz, h, rfl⟩⟩
theorem BlkMv.ofid {r : Nat → Option Nat} {H : List ABlk} {b : ABlk} (h : ∀ b, b < H.length → r b = some b) : BlkMv r H b b :=
  ⟨rfl, rfl, rfl, fun i e e2 h1 h2 => by
    rw [h1] at h2; injection h2 with h2; subst h2
    exact ⟨rfl, fun k c c2 h3 h4 => by
      rw [h3] at h4; injection h4 with h4; subst h4
      exact .ofid h⟩⟩
theorem rb_range3 {n j : Nat} : rb (List.range n) n j = some j := by
  unfold rb
  rw [List.length_range]
  split
  · rename_i h; rw [List.getElem?_range h]
  · congr 1; omega
theorem CallE.all {H H' : List ABlk} (hl : H.length ≤ H'.length) : CallE (List.range H.length) H H H' H' :=
  ⟨List.nodup_range, List.length_range, fun j b hj => by
    obtain ⟨h1, h2⟩ := List.getElem?_eq_some_iff.1 hj
    rw [List.length_range] at h1
    rw [List.getElem_range] at h2
    subst h2
    exact ⟨H[j], H[j], List.getElem?_eq_getElem h1, List.getElem?_eq_getElem h1, .ofid fun b hb => by rw [ro_range2, if_pos hb]⟩, hl, by omega, fun b hb hn => absurd (List.mem_range.2 hb) hn, fun j c bk hr hb => by
    rw [rb_range3] at hr; injection hr with hr; subst hr
    exact ⟨bk, hb, .ofid fun b _ => rb_range3⟩⟩
theorem MvL.ofid {r : Nat → Option Nat} {H : List ABlk} (h : ∀ b, b < H.length → r b = some b) : ∀ l : List AV, MvL r H l l
  | [] => trivial
  | _ :: l => ⟨.ofid h, MvL.ofid h l⟩
theorem pl_callW {H H' : List ABlk} {ρ : Operand → AV} {c : Call} {fx : Operand} {f : FuncId} {caps args : List AV} {d : AV} (hf : FnH Tryd.prog f args H d H') (hl : H.length ≤ H'.length) (hc : c.callee = .value fx) (hfx : ρ fx = .clo f caps) (ha : c.args.toList.map ρ ++ caps = args) : PL Tryd.prog H ρ (.call c) d H' :=
  pl_callH hf (.all hl) hc hfx (by rw [ha]; exact .ofid (fun b hb => by rw [ro_range2, if_pos hb]) _) (.ofid fun b _ => rb_range3)
def oi : Option Nat → Int
  | some i => i
  | none => -1
theorem fidx_some {α : Type} {p : α → Bool} {l : List α} {k : Nat} (h : Fst (fun x => p x = false) l k) (hk : k < l.length) (hp : p l[k] = true) : l.findIdx? p = some k := by
  rw [List.findIdx?_eq_some_iff_getElem]
  exact ⟨hk, hp, fun j hj => by have := h j (by omega) hj; simp [this]⟩
theorem fidx_none {α : Type} {p : α → Bool} {l : List α} {k : Nat} (h : Fst (fun x => p x = false) l k) (hk : l.length ≤ k) : l.findIdx? p = none := by
  rw [List.findIdx?_eq_none_iff]
  exact fun x hx => h.all hk x hx
theorem oi_any {p : Int → Bool} {l : List Int} : (0 ≤ oi (l.findIdx? p)) ↔ l.any p = true := by
  cases hx : l.findIdx? p with
  | none =>
    rw [List.findIdx?_eq_none_iff] at hx
    simp [oi]
    exact hx
  | some i =>
    have := List.findIdx?_eq_some_iff_getElem.1 hx
    simp [oi]
    exact ⟨_, List.getElem_mem _, this.2.1⟩
theorem idxI_ok (H : List ABlk) (p : Int → Bool) (fid : FuncId) (caps : List AV) (l : List Int) (hl : l.length ≤ 1000000) (h : ∀ x ∈ l, FnH Tryd.prog fid (.int x :: caps) H (.bool (p x)) H) :
    FnH Tryd.prog 126 [.lst (l.map .int), .clo fid caps] H (.int (oi (l.findIdx? p))) H := by
  obtain ⟨R, hR⟩ : ∃ R, R = oi (l.findIdx? p) := ⟨_, rfl⟩
  rw [← hR]
  refine FnH.intro' [(0, .lst (l.map .int)), (1, .clo fid caps)] 2 19 H.length Tryd.func126 (by kernel_rfl) rfl rfl rfl rfl rfl rfl ?_
  refine goF ?_
  refine AWp.loopP (J := fun k : Nat => k ≤ l.length ∧ Fst (fun x => p x = false) l k) (fun k => [(8, .int k)]) (fun k => l.length - k) 0 ⟨Nat.zero_le _, .zero _ _⟩ .wk ?_
  rintro k ⟨hk, he⟩
  refine goF ?_
  refine ifA (fun hd => ?_) (fun hd => ?_)
  · simp at hd
    have hnx : nth 0 l (k : Int) = l[k] := nth_eq hd
    have ih := h _ (List.getElem_mem hd)
    have hfs := fun hp => fidx_some (p := p) he hd hp
    have hsu := fun hp => he.succ (List.getElem?_eq_getElem hd) hp
    generalize l[k] = x at *
    clear he h
    refine goF ?_
    refine ARun.p1 rfl rfl (pl_callW ih (Nat.le_refl _) rfl (by simp +decide only [go_sem, *] <;> rfl) (by simp +decide only [go_sem, *] <;> rfl)) ?_
    refine goF ?_
    refine ifA (fun hp => ?_) (fun hp => ?_)
    · refine goF ?_
      rw [hR, hfs hp]
      exact RetH.same (vs := [.int k]) (by show resVals _ _ [.tmp 4] = _; simp +decide only [resVals, resVal, ldPtr, ldE, go_sem, *] <;> rfl) rfl rfl
    refine goF ?_
    rw [wrap_succ (by omega)]
    exact ⟨k + 1, ⟨hd, hsu hp⟩, by omega, .wk⟩
  simp at hd
  refine goF ?_
  rw [hR, fidx_none he (by omega)]
  exact RetH.same (vs := [.int (-1)]) (by show resVals _ _ [.tmp 4] = _; simp +decide only [resVals, resVal, ldPtr, ldE, go_sem, *] <;> rfl) rfl rfl
theorem conI_ok (H : List ABlk) (p : Int → Bool) (fid : FuncId) (caps : List AV) (l : List Int) (hl : l.length ≤ 1000000) (h : ∀ x ∈ l, FnH Tryd.prog fid (.int x :: caps) H (.bool (p x)) H) :
    FnH Tryd.prog 123 [.lst (l.map .int), .clo fid caps] H (.bool (l.any p)) H := by
  have i1 := idxI_ok H p fid caps l hl h
  clear h
  refine FnH.intro' [(0, .lst (l.map .int)), (1, .clo fid caps)] 2 9 H.length Tryd.func123 (by kernel_rfl) rfl rfl rfl rfl rfl rfl ?_
  refine goF ?_
  refine ARun.p1 rfl rfl (pl_callW i1 (Nat.le_refl _) rfl (by simp +decide only [go_sem, *] <;> rfl) (by simp +decide only [go_sem, *] <;> rfl)) ?_
  refine goF ?_
  refine RetH.same (vs := [.bool (decide (oi (l.findIdx? p) ≥ 0))]) (by show resVals _ _ [.tmp 4] = _; simp +decide only [resVals, resVal, ldPtr, ldE, go_sem, *] <;> rfl) ?_ rfl
  show AV.bool _ = _
  congr 1
  rw [Bool.eq_iff_iff, decide_eq_true_iff]
  exact oi_any
end Go.Ab
set_option maxHeartbeats 4000000
namespace Go.Ab
open Go Go.Ab Go.Proofs Go.Ab.Ty

theorem vrsV_own {j : Nat} {l : List Int} {i : Nat} {x : Int} (h : l[i]? = some x) : vrsV j l = .own (ix (.vrs j)) l.length 0 l.length := by
  cases l with
  | nil => simp at h
  | cons a l => rfl
abbrev pcB (j : Nat) : ABlk := ⟨135, 1, [ptC j]⟩
theorem set1_ok {s : PRun} {j v : Nat} {c : PCall} {x : Int} (hc : s.calls[j]? = some c) (hx : c.vars[v]? = some x) (hj : ix (.cal j) < NN) (hj2 : ix (.vrs j) < NN) : FnH Tryd.prog 124 [.int v, .ptr NN 1 0 0] (HH s ++ [pcB j]) (.bool (decide (x < 0))) (HH s ++ [pcB j]) := by
  have hvv := vrsV_own (j := j) hx
  have hidx : (c.vars.map AV.int)[v]? = some (.int x) := by rw [List.getElem?_map, hx]; rfl
  have hvl : v < c.vars.length := (List.getElem?_eq_some_iff.1 hx).1
  refine FnH.intro' [(0, .int v), (1, .ptr NN 1 0 0)] 2 12 (NN + 1) Tryd.func124 (by kernel_rfl) rfl rfl rfl rfl rfl (by simp [HH_len]) ?_
  refine goF ?_
  refine ARun.q1 rfl rfl (ql_ixo (n := v) (by simp +decide only [go_sem, *] <;> rfl) (by simp +decide only [go_sem, *] <;> rfl) Tryd.underlying25 (by simp +decide only [go_sem, *] <;> rfl) (by simp) hvl (by simp +decide only [go_sem, *] <;> rfl)) ?_
  refine goF ?_
  exact RetH.same (vs := [.bool (decide (x < 0))]) (by show resVals _ _ [.tmp 3] = _; simp +decide only [resVals, resVal, ldPtr, ldE, go_sem, *] <;> rfl) rfl rfl
def setB (c : PCall) (vs : List Int) : Bool := !(vs.any fun v => decide (c.vars.getD v.toNat 0 < 0))
def inV (c : PCall) (v : Int) : Prop := 0 ≤ v ∧ v.toNat < c.vars.length
theorem set_ok {s : PRun} (hw : WF s) {j : Nat} {c : PCall} {vs : List Int} (hvs : ∀ v ∈ vs, inV c v) (hl : vs.length ≤ 1000000) (hc : s.calls[j]? = some c) (hj : ix (.cal j) < NN) (hj2 : ix (.vrs j) < NN) : FnH Tryd.prog 111 [ptC j, .lst (vs.map .int)] (HH s) (.bool (setB c vs)) (HH s) := by
  have i1 := conI_ok (HH s ++ [pcB j]) (fun v => decide (c.vars.getD v.toNat 0 < 0)) 124 [.ptr NN 1 0 0] vs hl fun v hv => by
    obtain ⟨h1, h2⟩ := hvs v hv
    have hx : c.vars[v.toNat]? = some (c.vars.getD v.toNat 0) := by rw [List.getD_eq_getElem?_getD, List.getElem?_eq_getElem h2]; rfl
    have := set1_ok hc hx hj hj2
    rwa [Int.toNat_of_nonneg h1] at this
  refine FnH.intro' [(0, ptC j), (1, .lst (vs.map .int))] 2 9 NN Tryd.func111 (by kernel_rfl) rfl rfl rfl rfl rfl (HH_len s) ?_
  refine goF ?_
  refine ARun.p1 rfl rfl (pl_callW i1 (Nat.le_refl _) rfl (by simp +decide only [go_sem, *] <;> rfl) (by simp +decide only [go_sem, *] <;> rfl)) ?_
  refine goF ?_
  refine RetH.run hw (vs := [.bool (setB c vs)]) (T := [pcB j]) (by show resVals _ _ [.tmp 4] = _; simp +decide only [resVals, resVal, ldPtr, ldE, go_sem, *] <;> rfl) rfl (.pu (.base _))
theorem NilB.rf {H : List ABlk} {S : Nat → Prop} : ∀ {L : List ABlk}, (∀ b ∈ L, RfB S b) → NilB H L L
  | [], _ => trivial
  | b :: L, h => ⟨⟨rfl, rfl, rfl, fun i e e2 h1 h2 => by
      rw [h1] at h2; injection h2 with h2; subst h2
      exact ⟨rfl, fun k c c2 h3 h4 => by
        rw [h3] at h4; injection h4 with h4; subst h4
        exact .mv ((h b (by simp) e (List.mem_of_getElem? h1) c (List.mem_of_getElem? h3)).mv fun _ _ => rfl)⟩⟩, NilB.rf fun x hx => h x (by simp [hx])⟩
def givL (c : PCall) (vs : List Int) : List Int := vs.map fun v => c.vars.getD v.toNat 0
theorem given_ok {s : PRun} (hw : WF s) {j : Nat} {c : PCall} {vs : List Int} (hvs : ∀ v ∈ vs, inV c v) (hl : vs.length ≤ 1000000) (hc : s.calls[j]? = some c) (hj : ix (.cal j) < NN) (hj2 : ix (.vrs j) < NN) : FnH Tryd.prog 115 [ptC j, .lst (vs.map .int)] (HH s) (.own NN (givL c vs).length 0 (givL c vs).length) (HH s ++ [intB (givL c vs)]) := by
  refine FnH.intro' [(0, ptC j), (1, .lst (vs.map .int))] 2 26 NN Tryd.func115 (by kernel_rfl) rfl rfl rfl rfl rfl (HH_len s) ?_
  refine goF ?_
  refine AWp.weaken (Wk.nilC (E2 := [(0, ptC j), (5, .own NN 0 0 0), (8, .lst (vs.map .int)), (9, .int vs.length), (10, .int 0)]) (H2 := HH s) 3 1 (.rf (HH_rf hw)) ⟨.ptr, .nil (HH_len s), .pu (Pu_mapInt _), .pu (.base _), .pu (.base _), trivial⟩) ?_
  refine AWp.loop (J := fun i : Nat => i ≤ vs.length) (fun i => ⟨[(0, ptC j), (5, .own NN i 0 i), (8, .lst (vs.map .int)), (9, .int vs.length), (10, .int i)], HH s ++ [intB (givL c (vs.take i))]⟩) (fun i => vs.length - i) 0 (Nat.zero_le _) .wf ?_
  rintro i hi
  refine goF ?_
  refine ifA (fun hd => ?_) (fun hd => ?_)
  · simp at hd
    have hnx : nth 0 vs (i : Int) = vs[i] := nth_eq hd
    obtain ⟨h1, h2⟩ := hvs _ (List.getElem_mem hd)
    have htk : givL c (vs.take (i + 1)) = givL c (vs.take i) ++ [c.vars.getD vs[i].toNat 0] := by unfold givL; rw [List.take_succ_eq_append_getElem hd, List.map_append]; rfl
    have hgl : (givL c (vs.take i)).length = i := by unfold givL; rw [List.length_map, List.length_take]; omega
    generalize givL c (vs.take i) = A at *
    have hx : c.vars[vs[i].toNat]? = some (c.vars.getD vs[i].toNat 0) := by rw [List.getD_eq_getElem?_getD, List.getElem?_eq_getElem h2]; rfl
    generalize c.vars.getD vs[i].toNat 0 = x at *
    obtain ⟨v, hv⟩ : ∃ v : Nat, vs[i] = v := ⟨_, (Int.toNat_of_nonneg h1).symm⟩
    rw [hv] at hnx hx h2
    simp only [Int.toNat_natCast] at hx h2
    have hvv := vrsV_own (j := j) hx
    have hidx : (c.vars.map AV.int)[v]? = some (.int x) := by rw [List.getElem?_map, hx]; rfl
    clear hvs
    refine goF ?_
    refine ARun.q1 rfl rfl (ql_ixo (n := v) (by simp +decide only [go_sem, *] <;> rfl) (by simp +decide only [go_sem, *] <;> rfl) Tryd.underlying25 (by simp +decide only [go_sem, *] <;> rfl) (by simp) h2 (by simp +decide only [go_sem, *] <;> rfl)) ?_
    refine goF ?_
    refine ARun.p1 rfl rfl (pl_append (b := NN) (tot := i) (es := [.int x]) (by simp +decide only [go_sem, *] <;> rfl) (by simp +decide only [go_sem, *] <;> rfl) (by simp +decide only [go_sem, *] <;> rfl) (by simp; omega) Tryd.underlying25 el3 rfl rfl (by simp) (fun e he => by rw [List.mem_singleton] at he; subst he; exact ⟨rfl, rfl⟩) (by simp; omega) (by simp; omega)) ?_
    refine goF ?_
    rw [wrap_succ (by omega)]
    refine ⟨i + 1, hd, by omega, ?_⟩
    rw [htk, show intB (A ++ [x]) = ⟨3, 1, A.map AV.int ++ [AV.int x]⟩ by rw [intB, List.map_append]; rfl]
    exact .wf
  simp at hd
  obtain rfl : i = vs.length := by omega
  rw [List.take_length]
  have hgl : (givL c vs).length = vs.length := by unfold givL; rw [List.length_map]
  rw [hgl]
  refine goF ?_
  exact RetH.same (vs := [.own NN vs.length 0 vs.length]) (by show resVals _ _ [.tmp 4] = _; simp +decide only [resVals, resVal, ldPtr, ldE, go_sem, *] <;> rfl) rfl rfl
@[go_sem] theorem aH_get0 {H T : List ABlk} : (H ++ T)[H.length]? = T[0]? := by rw [List.getElem?_append_right (Nat.le_refl _), Nat.sub_self]
@[go_sem] theorem aH_set0 {H T : List ABlk} {X : ABlk} : (H ++ T).set H.length X = H ++ T.set 0 X := by rw [List.set_append_right _ _ (Nat.le_refl _), Nat.sub_self]
theorem aH_get {H : List ABlk} {b : Nat} {X : ABlk} (h : H[b]? = some X) (T : List ABlk) : (H ++ T)[b]? = some X := by rw [List.getElem?_append_left (List.getElem?_eq_some_iff.1 h).1]; exact h
theorem Lend.int {H : List ABlk} {b ty n : Nat} {l : List Int} (h : H[b]? = some ⟨ty, 1, l.map AV.int⟩) (hn : l.length = n) : Lend H (.own b n 0 n) (.lst (l.map AV.int)) := .ownM h hn fun x _ c hc => by
  simp only [AV.cells, List.mem_singleton] at hc; subst hc; exact .base _
theorem clone_ok {H : List ABlk} {b n : Nat} {l : List Int} (hb : H[b]? = some (intB l)) (hn : l.length = n) (h0 : 0 < n) (h1 : n ≤ 1000000) : FnH Tryd.prog 89 [.own b n 0 n] H (.own H.length n 0 n) (H ++ [intB l]) := by
  refine FnH.intro' [(0, .own b n 0 n)] 1 8 H.length Tryd.func89 (by kernel_rfl) rfl rfl rfl rfl rfl rfl ?_
  refine goE ?_
  refine ARun.q1 rfl rfl (ql_eqnil_own (b := b) (tot := n) (off := 0) (len := n) (by simp +decide only [go_sem, *] <;> rfl) hb (by simp [hn]) h0 (by simp +decide only [go_sem, *] <;> rfl) Tryd.underlying25) ?_
  refine goE ?_
  refine iff_ ?_ ?_ rfl
  rotate_left
  · rfl
  refine goE ?_
  refine ARun.p1 rfl rfl (pl_buildSlice (es := []) (by decide) Tryd.underlying25 sz3 (by kernel_rfl) (by decide) (by (simp +decide only [List.map, go_sem] <;> rfl)) (by (simp +decide only [List.map, go_sem] <;> rfl)) rfl) ?_
  refine goE ?_
  refine ARun.p1 rfl rfl (pl_appendL (b := H.length) (tot := 0) (size := 1) (bytes := 8) (es := l.map AV.int) (av := .own b n 0 n) (blk := ⟨3, 1, []⟩) (by simp +decide only [go_sem, *] <;> rfl) (by simp +decide only [go_sem, *] <;> rfl) (Lend.int (ty := 3) (aH_get hb _) hn) (fun e he => by obtain ⟨x, _, rfl⟩ := List.mem_map.1 he; exact ⟨_, rfl⟩) (by simp +decide only [go_sem, *] <;> rfl) rfl Tryd.underlying25 el3 rfl rfl (by simp; omega) (fun e he => by obtain ⟨x, _, rfl⟩ := List.mem_map.1 he; exact ⟨rfl, rfl⟩) (by simp; omega) (by simp; omega)) ?_
  refine goE ?_
  exact RetH.same (vs := [.own H.length n 0 n]) (by show resVals _ _ [.tmp 2] = _; simp +decide only [resVals, resVal, ldPtr, ldE, go_sem, *] <;> rfl) rfl rfl
def joinL (a b : List Int) : List Int := List.zipWith max a b
theorem joinL_len {a b : List Int} (h : a.length = b.length) : (joinL a b).length = a.length := by unfold joinL; rw [List.length_zipWith, h, Nat.min_self]
def joinK (a b : List Int) (k : Nat) : List Int := joinL (a.take k) (b.take k) ++ a.drop k
theorem joinK_all {a b : List Int} (h : a.length = b.length) : joinK a b a.length = joinL a b := by unfold joinK; rw [List.take_length, h, List.take_length, ← h, List.drop_length, List.append_nil]
theorem joinK_len {a b : List Int} (h : a.length = b.length) {k : Nat} (hk : k ≤ a.length) : (joinK a b k).length = a.length := by
  unfold joinK; rw [List.length_append, joinL_len (by simp [h]), List.length_take, List.length_drop]; omega
theorem joinK_at {a b : List Int} (h : a.length = b.length) {k : Nat} (hk : k < a.length) : (joinK a b k)[k]? = some a[k] := by
  unfold joinK
  have : (joinL (a.take k) (b.take k)).length = k := by rw [joinL_len (by simp [h]), List.length_take]; omega
  rw [List.getElem?_append_right (by omega), this, Nat.sub_self, List.getElem?_drop, Nat.add_zero, List.getElem?_eq_getElem hk]
theorem joinK_succ {a b : List Int} (h : a.length = b.length) {k : Nat} (hk : k < a.length) : joinK a b (k + 1) = (joinK a b k).set k (max a[k] (b[k]'(by omega))) := by
  have hk2 : k < b.length := by omega
  have hl : (joinL (a.take k) (b.take k)).length = k := by rw [joinL_len (by simp [h]), List.length_take]; omega
  have e1 : joinL (a.take (k + 1)) (b.take (k + 1)) = joinL (a.take k) (b.take k) ++ [max a[k] b[k]] := by
    unfold joinL
    rw [List.take_succ_eq_append_getElem hk, List.take_succ_eq_append_getElem hk2, List.zipWith_append (by simp; omega)]
    rfl
  unfold joinK
  rw [e1, List.set_append_right _ _ (by omega), hl, Nat.sub_self, List.drop_eq_getElem_cons hk, List.set_cons_zero, List.append_assoc]
  rfl
theorem join_ok {H : List ABlk} {b c n : Nat} {l m : List Int} (hb : H[b]? = some (intB l)) (hc : H[c]? = some (intB m)) (hn : l.length = n) (hm : m.length = n) (h0 : 0 < n) (h1 : n ≤ 1000000) : FnH Tryd.prog 87 [.own b n 0 n, .own c n 0 n] H (.own H.length n 0 n) (H ++ [intB (joinL l m)]) := by
  have i1 := clone_ok hb hn h0 h1
  have hlm : l.length = m.length := by omega
  have hc' := aH_get hc
  refine FnH.intro' [(0, .own b n 0 n), (1, .own c n 0 n)] 2 28 H.length Tryd.func87 (by kernel_rfl) rfl rfl rfl rfl rfl rfl ?_
  refine goF ?_
  refine ARun.p1 rfl rfl (pl_callW i1 (by simp) rfl (by simp +decide only [go_sem, *] <;> rfl) (by simp +decide only [go_sem, *] <;> rfl)) ?_
  refine goF ?_
  refine AWp.loop (J := fun k : Nat => k ≤ n) (fun k => ⟨[(5, .own H.length n 0 n), (10, .own c n 0 n), (11, .int n), (12, .int k)], H ++ [intB (joinK l m k)]⟩) (fun k => n - k) 0 (Nat.zero_le _) .wf ?_
  rintro k hk
  have hjl := joinK_len hlm (k := k) (by omega)
  rw [hn] at hjl
  refine goF ?_
  refine ifA (fun hd => ?_) (fun hd => ?_)
  · simp at hd
    have hjs := joinK_succ hlm (k := k) (by omega)
    have hja := joinK_at hlm (k := k) (by omega)
    have hm2 : k < m.length := by omega
    have hmk : (m.map AV.int)[k]? = some (.int m[k]) := gtM hm2
    generalize l[k] = x at *
    generalize m[k] = y at *
    generalize joinK l m k = A at *
    have hak : (A.map AV.int)[k]? = some (.int x) := by rw [List.getElem?_map, hja]; rfl
    clear i1
    refine goF ?_
    refine ARun.q1 rfl rfl (ql_ixo (n := k) (b := c) (tot := n) (len := n) (blk := intB m) (by simp +decide only [go_sem, *] <;> rfl) (by simp +decide only [go_sem, *] <;> rfl) Tryd.underlying25 (hc' _) (by simp [hm]) hd (by simp +decide only [go_sem, *] <;> rfl)) ?_
    refine goF ?_
    refine ARun.q1 rfl rfl (ql_ixo (n := k) (b := H.length) (tot := n) (len := n) (blk := intB A) (by simp +decide only [go_sem, *] <;> rfl) (by simp +decide only [go_sem, *] <;> rfl) Tryd.underlying25 (by simp) (by simp [hjl]) hd (by simp +decide only [go_sem, *] <;> rfl)) ?_
    refine goF ?_
    refine ARun.q1 rfl rfl (ql_ixo (n := k) (b := H.length) (tot := n) (len := n) (blk := intB A) (by simp +decide only [go_sem, *] <;> rfl) (by simp +decide only [go_sem, *] <;> rfl) Tryd.underlying25 (by simp) (by simp [hjl]) hd (by simp +decide only [go_sem, *] <;> rfl)) ?_
    refine goF ?_
    refine ARun.p1 rfl rfl (pl_store_own (f := AV.int) (l := A) (b := H.length) (tot := n) (i := k) (ty := 3) (sz := 1) (max x y) (by simp +decide only [go_sem, *] <;> rfl) (by simp +decide only [go_sem, *] <;> rfl) (by simp) hjl (by omega) sz3 rfl rfl) ?_
    refine goF ?_
    rw [wrap_succ (by omega)]
    refine ⟨k + 1, hd, by omega, ?_⟩
    rw [hjs]
    exact .wf
  simp at hd
  obtain rfl : k = n := by omega
  rw [show joinK l m k = joinL l m by rw [← hn]; exact joinK_all hlm]
  refine goF ?_
  exact RetH.same (vs := [.own H.length k 0 k]) (by show resVals _ _ [.tmp 4] = _; simp +decide only [resVals, resVal, ldPtr, ldE, go_sem, *] <;> rfl) rfl rfl
end Go.Ab
