/- A pointer to a block that goes out of sight becomes a pointer to data. -/
import Derived.Test.YtpgbgclphjgdbaaAbL
import Derived.Test.YtpgbgclphjgdbaaAbJ
set_option linter.unusedSimpArgs false
set_option linter.unusedVariables false
namespace Go.Ab
open Go Go.RowKit
theorem PubR.iptr {r : Nat → Option Nat} {H : List ABlk} {b tot i off : Nat} {blk : ABlk} {e d : AV} (hk : r b = none) (h1 : H[b]? = some blk) (ht : blk.es.length = tot) (he : blk.es[i]? = some e)
    (hd : PubRL r H e.cells d.cells) : PubR r H (.ptr b tot i off) (.iptr d off) := fun H2 w0 w O ι ι2 u hs v hu => by
  cases hu with
  | stalePtr b tot i off blk' a h1' h2 => rw [h1] at h1'; cases h1'; omega
  | ptr b tot i off blk' x h1' ht' hi hcx =>
    rw [h1] at h1'; cases h1'
    obtain ⟨hx0, c0, hc, hcs, hsz, hel⟩ := hs.heap b blk x h1 hi
    have hnot : ¬ OO O ι2 H2 x := not_OO_view hs v h1 hk hi
    have hat : ∀ (j : Nat) (c : AV), d.cells[j]? = some c → ∃ u, w.cell? ⟨x, i * blk.sz + j, none⟩ = some u ∧ VR w (OO O ι2 H2) ι2 H2 c u := by
      intro j c hcj
      have hj : j < e.cells.length := by rw [hd.len]; exact (List.getElem?_eq_some_iff.1 hcj).1
      have hej : e.cells[j]? = some e.cells[j] := List.getElem?_eq_getElem hj
      obtain ⟨u, hu, hv⟩ := hel i j e _ he hej
      obtain ⟨ty3, fz3, hc⟩ := rowAt_el hc hcx
      exact ⟨u, by simpa [World.cell?, hc] using hu, hd.get j _ c hej hcj H2 w0 w O ι ι2 u hs v hv⟩
    refine .iptr d off _ (fun j => (w.cell? ⟨x, i * blk.sz + j, none⟩).getD undef) rfl (Nat.le_add_left _ _) (fun j c hcj => ?_) (fun j c hcj => ?_)
    · obtain ⟨u, hu, _⟩ := hat j c hcj
      refine ⟨hnot, ?_⟩
      show w.cell? ⟨x, i * blk.sz + off - off + j, none⟩ = _
      rw [Nat.add_sub_cancel, hu]; rfl
    · obtain ⟨u, hu, hv⟩ := hat j c hcj
      simpa only [hu, Option.getD_some] using hv
end Go.Ab
namespace Go.Ab
open Go Go.RowKit
def frzK (l : List UInt8) (el : TypeId := 5) : ABlk := ⟨frzM el, 1, l.map AV.u8⟩
theorem PuB_frzK (l : List UInt8) (el : TypeId := 5) : ∀ e ∈ (frzK l el).es, ∀ c ∈ e.cells, Pu c := fun e he c hc => by
  obtain ⟨x, _, rfl⟩ := List.mem_map.1 he
  simp only [AV.cells, List.mem_singleton] at hc
  subst hc; exact .base _
section
variable {P : Program} {H : List ABlk} {w w' : World} {w0 : Base} {O : Nat → Prop} {ι : Nat → Option Nat}
theorem Sit.frzK (hs : Sit w0 O ι H w) {b x : Nat} {blk blk2 : ABlk} (hb : H[b]? = some blk) (hi : ι b = some x) (h2s : blk2.sz = blk.sz) (h2e : blk2.es = blk.es) (hw' : Below x w w') (hoth : ∀ k, k ≠ x → w'.heap[k]? = w.heap[k]?)
    {c : Array Value} {ty0 ty1 : TypeId} {fz0 fz1 : Nat × Nat} (h0 : w.heap[x]? = some (.cells c ty0 fz0)) (h1 : w'.heap[x]? = some (.cells c ty1 fz1)) (hr : rowAt w' x = some (c, blk2.ty)) :
    Sit w0 O ι (H.set b blk2) w' ∧ Goes w (OO O ι H) ι H w' (OO O ι (H.set b blk2)) ι (H.set b blk2) := by
  have hbl : b < H.length := (List.getElem?_eq_some_iff.1 hb).1
  have hget : ∀ b' bk, (H.set b blk2)[b']? = some bk → (b' = b ∧ bk = blk2) ∨ (b' ≠ b ∧ H[b']? = some bk) := by
    intro b' bk h
    rw [List.getElem?_set] at h
    by_cases e : b = b'
    · subst e; rw [if_pos rfl, if_pos hbl] at h; injection h with h; exact .inl ⟨rfl, h.symm⟩
    · rw [if_neg e] at h; exact .inr ⟨fun e' => e e'.symm, h⟩
  have hOO : ∀ y, OO O ι (H.set b blk2) y ↔ OO O ι H y := fun y => by unfold OO rng; simp
  obtain ⟨hxlo, c0, hc0, hcl, hcs, hel⟩ := hs.heap b blk x hb hi
  have hcc : c0 = c := by
    obtain ⟨_, _, e⟩ := rowAt_el hc0 ⟨_, _, _, h0⟩
    rw [h0] at e; injection e with e; injection e with e; exact e.symm
  subst hcc
  have g : Goes w (OO O ι H) ι H w' (OO O ι (H.set b blk2)) ι (H.set b blk2) := by
    refine ⟨fun p u h hcell => ?_, fun p u h _ h' => h ((hOO _).1 h'), fun b' bk h => ?_, fun b' y bk bk' c1 ty fz h1' h2 h3 hi' h => ?_⟩
    · have : p.block ≠ x := fun e => h (.inr ⟨b, hbl, by rw [e]; exact hi⟩)
      rw [World.cell?_of_block (hoth _ this)]; exact hcell
    · by_cases e : b' = b
      · subst e
        rw [hb] at h; injection h with h; subst h
        exact ⟨blk2, by simp [hbl], by rw [h2e]; exact Nat.le_refl _, fun h => ⟨h2s, rfl⟩⟩
      · exact ⟨bk, by rw [List.getElem?_set_ne (fun e' => e e'.symm)]; exact h, Nat.le_refl _, fun _ => ⟨rfl, rfl⟩⟩
    · by_cases e : y = x
      · subst e
        rw [h0] at h; injection h with h; injection h with e1 e2 e3
        subst e1
        exact ⟨c0, ty1, fz1, h1, rfl⟩
      · exact ⟨c1, ty, fz, by rw [hoth y e]; exact h, rfl⟩
  refine ⟨⟨fun b' bk y h hy => ?_, fun b' bk h hy => ?_, fun b1 b2 y h1 h2 => hs.inj b1 b2 y (by simpa using h1) (by simpa using h2), hs.below.change hw'.os hw'.tape hw'.output hw'.size (fun k _ hk => by
      rcases Classical.em (k = x) with e | e
      · rw [e]; exact hxlo
      · exact absurd (hoth k e) hk),
    fun y hy => Nat.lt_of_lt_of_le (hs.old y hy) hw'.size, fun y b1 hO h1 => hs.disj y b1 hO (by simpa using h1), hs.hist.trans g.grow⟩, g⟩
  · rcases hget b' bk h with ⟨rfl, rfl⟩ | ⟨hne, h'⟩
    · rw [hi] at hy; injection hy with hy; subst hy
      refine ⟨hxlo, c0, hr, by rw [h2e, h2s]; exact hcl, by rw [h2e, h2s]; exact hcs, fun i j e d hie hjd => ?_⟩
      rw [h2e] at hie
      obtain ⟨u, hu, hv⟩ := hel i j e d hie hjd
      exact ⟨u, by rw [h2s]; exact hu, hv.mono g⟩
    · obtain ⟨h3, h4⟩ := hs.heap b' bk y h' hy
      have hyx : y ≠ x := fun e => hne (hs.inj b' b y (List.getElem?_eq_some_iff.1 h').1 hbl hy (by rw [e]; exact hi))
      exact ⟨h3, h4.mono g (hoth y hyx)⟩
  · rcases hget b' bk h with ⟨rfl, rfl⟩ | ⟨hne, h'⟩
    · rw [hi] at hy; cases hy
    · exact hs.empt b' bk h' hy
theorem ql_sliceDataK {ρ : Operand → AV} {x : Operand} {t el ty bt : TypeId} {b tot : Nat} {es : List AV} (hx : ρ x = .own b tot 0 tot) (hb : H[b]? = some ⟨bt, 1, es⟩) (htot : es.length = tot) (hty : P.underlying ty = some (.pointer el)) :
    QLt P H ρ (.call { callee := .builtin .unsafeSliceData, args := #[x], argTypes := #[t] }) ty (if tot = 0 then .anyp else .ptr b tot 0 0) := by
  intro o ho hot w0 O ι a w hs hv K Q hK
  have h1 := hv x (.inl (by rw [ho]; simp [Op.operands, Call.operands])); rw [hx] at h1
  have hrun : ∀ v w', (Builtin.unsafeSliceData_ #[t] o.type #[a.eval x]).run P w = .ok v w' → (execOp a.eval o).run P w = .ok (.value v) w' := fun v w' h => by
    simp only [execOp, ho, resolve, invoke, builtin, Sem.run_bind, Sem.run_pure, Result.andThen_ok, List.map_toArray, List.map_cons, List.map_nil, h]
  generalize a.eval x = X at h1 hrun
  unfold Oper.wp
  cases h1 with
  | staleOwn b tot off len blk' a n c hb' hlt => rw [hb] at hb'; cases hb'; exact absurd hlt (by simp only [htot]; omega)
  | ownNil b blk' hb' he hi =>
    rw [hrun _ _ (Lib.run_unsafeSliceData_nil w _ _ _ _)]
    exact hK _ _ (.anyp _) (Below.refl _ _)
  | own b tot off len blk' y n cap ad hb' ht' hi hn hl hcap ha =>
    rw [hb] at hb'; cases hb'
    obtain ⟨rfl, hmx, c, ty', fz, hc, hc2⟩ := ha (.inr rfl)
    by_cases h0 : cap = 0
    · subst h0
      have ht0 : tot = 0 := by omega
      rw [if_pos ht0] at hK
      rw [hrun _ _ (Lib.run_unsafeSliceData_zero w _ _ el (by rw [hot]; exact hty) _ n (ty', c.size) (by simp [World.shape?, hc]))]
      exact hK _ _ (.anyp _) ((Below.refl _ _).alloc (Nat.le_refl _) _)
    · rw [hrun _ _ (Lib.run_unsafeSliceData_row w _ _ _ _ _ h0)]
      refine hK _ _ ?_ (Below.refl _ _)
      split
      · exact .anyp _
      · have := VR.ptr (w := w) (O := OO O ι H) b tot 0 0 ⟨bt, 1, es⟩ y hb htot hi ⟨c, ty', fz, hc⟩
        simpa using this
theorem pl_unsafeStringK {ρ : Operand → AV} {x y : Operand} {t ti el bt : TypeId} {b tot : Nat} {l : List UInt8} (hx : ρ x = if tot = 0 then .anyp else .ptr b tot 0 0) (hy : ρ y = .int tot) (hb : H[b]? = some ⟨bt, 1, l.map AV.u8⟩) (htot : l.length = tot) (hl : tot ≤ maxLen)
    (ht : P.underlying t = some (.pointer el)) (hc : P.cellsOf el = 1) (hbt : bt = el ∧ el < mapTy ∨ bt = frzM el) :
    PL P H ρ (.call { callee := .builtin .unsafeString, args := #[x, y], argTypes := #[t, ti] }) (.base (.string ⟨l.toArray⟩)) (if tot = 0 then H else H.set b (frzK l el)) := by
  refine PL.of_run fun w0 O ι a w hs hv o ho => ?_
  have h1 := hv x; rw [hx] at h1
  have h2 := hv y; rw [hy] at h2
  have h2 := h2.base_inv
  have hrun : ∀ v w', (Builtin.unsafeString_ #[t, ti] o.type #[a.eval x, a.eval y]).run P w = .ok v w' → (execOp a.eval o).run P w = .ok (.value v) w' := fun v w' h => by
    simp only [execOp, ho, resolve, invoke, builtin, Sem.run_bind, Sem.run_pure, Result.andThen_ok, List.map_toArray, List.map_cons, List.map_nil, h]
  rw [h2] at hrun
  generalize a.eval x = X at h1 hrun
  by_cases h0 : tot = 0
  · rw [if_pos h0] at h1 ⊢
    have : l = [] := List.eq_nil_of_length_eq_zero (by omega)
    subst this
    subst h0
    cases h1 with
    | anyp p => exact ⟨_, w, ι, _, hrun _ _ (Lib.run_unsafeString_none w _ _ _ p), .inl rfl, hs, ⟨fun _ _ _ h => h, fun _ _ h _ => h, fun b blk h => ⟨blk, h, Nat.le_refl _, fun _ => ⟨rfl, rfl⟩⟩, fun b x blk blk' c ty fz h1 h2 _ hi h => ⟨c, ty, fz, h, rfl⟩⟩, .base _⟩
  · rw [if_neg h0] at h1 ⊢
    cases h1 with
    | stalePtr b tot i off blk' ad hb' hlt => rw [hb] at hb'; cases hb'; simp at hlt; omega
    | ptr b tot i off blk' z hb' ht' hi hcx =>
      rw [hb] at hb'; cases hb'
      obtain ⟨_, c, hcz, hcl, _, hrow⟩ := hs.heap b _ z hb hi
      obtain ⟨fzz, hcz⟩ := rowAt_ty hcz hcx hbt
      simp only at hcz hcl hrow
      have hcl : l.length ≤ c.size := by simpa using hcl
      have hcell : ∀ j y, l[j]? = some y → w.cell? ((⟨z, 0, none⟩ : Addr).add j) = some (.int .u8 y.toNat) := by
        intro j y hj
        obtain ⟨u, hu, hvu⟩ := hrow j 0 (AV.u8 y) (AV.u8 y) (by rw [List.getElem?_map, hj]; rfl) rfl
        have := hvu.base_inv
        subst this
        simp at hu
        rw [add_eq _ _ rfl]
        simpa [World.cell?, hcz] using hu
      have hr := Lib.run_unsafeString_row (P := P) w t ti o.type el ht hc z c.size (by simp [World.shape?, hcz]) l (fun e => h0 (by subst e; simpa using htot.symm)) hcl (by rw [htot]; exact Nat.le_trans hl (by decide)) hcell
      rw [htot] at hr
      have hz' : ∃ fz1, (w.freeze ⟨z, 0, none⟩ tot).heap[z]? = some (.cells c el fz1) ∧ fz1 ≠ (0, 0) := by
        unfold World.freeze
        rw [if_neg h0]
        simp only [Array.getElem?_modify, if_true, hcz, Option.map_some]
        obtain ⟨lo, hi⟩ := fzz
        refine ⟨_, rfl, ?_⟩
        simp only [Nat.zero_add]
        split
        · intro h; injection h with _ h; omega
        · intro h; injection h with h h'; omega
      obtain ⟨fz1, hz1, hfz⟩ := hz'
      have hrow' : rowAt (w.freeze ⟨z, 0, none⟩ tot) z = some (c, frzM el) := by
        simp only [rowAt, hz1, Option.bind_some, objRow]
        rw [if_neg hfz]
      have hoth : ∀ k, k ≠ z → (w.freeze ⟨z, 0, none⟩ tot).heap[k]? = w.heap[k]? := by
        intro k hk
        unfold World.freeze
        rw [if_neg h0]
        simp only [Array.getElem?_modify]
        rw [if_neg (fun e => hk e.symm)]
      obtain ⟨g1, g2⟩ := hs.frzK (blk2 := Go.Ab.frzK l el) hb hi rfl rfl (Lib.below_freeze (Below.refl z w) (p := ⟨z, 0, none⟩) (Nat.le_refl z) tot) hoth hcz hz1 hrow'
      simp only [Nat.zero_mul, Nat.zero_add] at hrun
      exact ⟨_, _, ι, _, hrun _ _ hr, .inl rfl, g1, g2, .base _⟩
end
end Go.Ab
namespace Go.Ab
open Go Go.RowKit
def InB (r : Nat → Option Nat) (HC : List ABlk) : List Nat → List ABlk → Prop
  | [], [] => True
  | b :: e, k :: H => (∃ bc, HC[b]? = some bc ∧ BlkMv r HC bc k) ∧ InB r HC e H
  | _, _ => False
def OutB (r : Nat → Option Nat) (H' : List ABlk) : List ABlk → List ABlk → Prop
  | [], [] => True
  | k :: H, n :: N => BlkMv r H' k n ∧ OutB r H' H N
  | _, _ => False
def setL (HC : List ABlk) : List Nat → List ABlk → List ABlk
  | b :: e, n :: N => setL (HC.set b n) e N
  | _, _ => HC
theorem InB.len {r : Nat → Option Nat} {HC : List ABlk} : ∀ {e : List Nat} {H : List ABlk}, InB r HC e H → e.length = H.length
  | [], [], _ => rfl
  | b :: e, k :: H, h => by simp [InB.len h.2]
theorem InB.get {r : Nat → Option Nat} {HC : List ABlk} : ∀ {e : List Nat} {H : List ABlk}, InB r HC e H → ∀ (j b : Nat), e[j]? = some b → ∃ bc bk, HC[b]? = some bc ∧ H[j]? = some bk ∧ BlkMv r HC bc bk
  | [], [], _, j, b, h => by simp at h
  | b0 :: e, k :: H, h, 0, b, hb => by
    simp at hb; subst hb
    obtain ⟨bc, h1, h2⟩ := h.1
    exact ⟨bc, k, h1, rfl, h2⟩
  | b0 :: e, k :: H, h, j + 1, b, hb => by
    simp at hb
    obtain ⟨bc, bk, h1, h2, h3⟩ := InB.get h.2 j b hb
    exact ⟨bc, bk, h1, by simpa using h2, h3⟩
theorem OutB.len {r : Nat → Option Nat} {H' : List ABlk} : ∀ {H N : List ABlk}, OutB r H' H N → H.length = N.length
  | [], [], _ => rfl
  | k :: H, n :: N, h => by simp [OutB.len h.2]
theorem OutB.get {r : Nat → Option Nat} {H' : List ABlk} : ∀ {H N : List ABlk}, OutB r H' H N → ∀ (j : Nat) (k n : ABlk), H[j]? = some k → N[j]? = some n → BlkMv r H' k n
  | [], [], _, j, k, n, h1, h2 => by simp at h1
  | k0 :: H, n0 :: N, h, 0, k, n, h1, h2 => by simp at h1 h2; subst h1; subst h2; exact h.1
  | k0 :: H, n0 :: N, h, j + 1, k, n, h1, h2 => by simp at h1 h2; exact OutB.get h.2 j k n h1 h2
theorem setL_len : ∀ (e : List Nat) (N HC : List ABlk), (setL HC e N).length = HC.length
  | [], N, HC => by cases N <;> rfl
  | b :: e, [], HC => rfl
  | b :: e, n :: N, HC => by rw [setL, setL_len e N, List.length_set]
theorem setL_not : ∀ (e : List Nat) (N HC : List ABlk) (b : Nat), b ∉ e → (setL HC e N)[b]? = HC[b]?
  | [], N, HC, b, _ => by cases N <;> rfl
  | b0 :: e, [], HC, b, _ => rfl
  | b0 :: e, n :: N, HC, b, h => by
    simp at h
    rw [setL, setL_not e N _ b h.2, List.getElem?_set_ne (by omega)]
theorem setL_in : ∀ (e : List Nat) (N HC : List ABlk), e.Nodup → (∀ b ∈ e, b < HC.length) → ∀ (j b : Nat) (n : ABlk), e[j]? = some b → N[j]? = some n → (setL HC e N)[b]? = some n
  | [], N, HC, _, _, j, b, n, h, _ => by simp at h
  | b0 :: e, [], HC, _, _, j, b, n, _, h => by simp at h
  | b0 :: e, n0 :: N, HC, hn, hb, 0, b, n, h1, h2 => by
    simp at h1 h2; subst h1; subst h2
    rw [List.nodup_cons] at hn
    rw [setL, setL_not e N _ b0 hn.1, List.getElem?_set_self (hb b0 (by simp))]
  | b0 :: e, n0 :: N, HC, hn, hb, j + 1, b, n, h1, h2 => by
    simp at h1 h2
    rw [List.nodup_cons] at hn
    rw [setL]
    exact setL_in e N _ hn.2 (fun x hx => by rw [List.length_set]; exact hb x (by simp [hx])) j b n h1 h2
section
variable {P : Program} {HC : List ABlk}
theorem pl_callN {ρ : Operand → AV} {c : Call} {fx : Operand} {f : FuncId} {caps args : List AV} {d d' : AV} (e : List Nat) {H H' : List ABlk} (news : List ABlk) (hf : FnH P f args H d H') (hn : e.Nodup)
    (hin : InB (ro e) HC e H) (hout : OutB (rb e HC.length) H' H' news) (hl : H'.length = e.length) (hc : c.callee = .value fx) (hfx : ρ fx = .clo f caps) (ha : MvL (ro e) HC (c.args.toList.map ρ ++ caps) args) (hd : MvR (rb e HC.length) H' d d') :
    PL P HC ρ (.call c) d' (setL HC e news) := by
  have h1 := hin.len
  have h2 := hout.len
  have hb : ∀ b ∈ e, b < HC.length := fun b hb => by
    obtain ⟨j, hj, rfl⟩ := List.getElem_of_mem hb
    obtain ⟨bc, bk, h3, _⟩ := hin.get j _ (List.getElem?_eq_getElem hj)
    exact (List.getElem?_eq_some_iff.1 h3).1
  refine pl_callH (e := e) hf ⟨hn, h1, hin.get, by omega, by rw [setL_len]; omega, fun b hb hn => setL_not e news HC b hn, fun j c bk hj hk => ?_⟩ hc hfx ha hd
  have hjl : j < e.length := by rw [← hl]; exact (List.getElem?_eq_some_iff.1 hk).1
  rw [rb, if_pos hjl] at hj
  have hnj : news[j]? = some news[j] := List.getElem?_eq_getElem (by omega)
  exact ⟨_, setL_in e news HC hn hb j c _ hj hnj, hout.get j _ _ hk hnj⟩
theorem BlkMv.one {r : Nat → Option Nat} {H : List ABlk} {ty sz : Nat} {e e2 : AV} (h : MvL r H e.cells e2.cells) : BlkMv r H ⟨ty, sz, [e]⟩ ⟨ty, sz, [e2]⟩ :=
  ⟨rfl, rfl, rfl, fun i x x2 h1 h2 => by
    cases i with
    | succ i => simp at h1
    | zero =>
      simp at h1 h2; subst h1; subst h2
      exact ⟨h.len, h.get⟩⟩
end
end Go.Ab
