/- Strings and own bytes: appended, frozen; pointers compared and turned. -/
import Derived.Lib.AppendStr
import Derived.Lib.UnsafeStr
import Derived.Lib.Builder
import Derived.Laws.Pointers
import Derived.Test.YtpgbgclphjgdbaaAbI
import Derived.Test.YtpgbgclphjgdbaaAbF
set_option linter.unusedSimpArgs false
set_option linter.unusedVariables false
namespace Go.Ab
open Go Go.RowKit

abbrev AV.u8 (c : UInt8) : AV := .base (.int .u8 c.toNat)

section
variable {P : Program} {w w' : World} {w0 : Base} {O : Nat → Prop} {ι : Nat → Option Nat} {H : List ABlk} {u : Value}

theorem append_str_core {t ts ty el : TypeId} (ht : P.underlying t = some (.slice el)) (hu : P.underlying ts = some .string) (hel : elI P el 1 1 = true) (hz : zeroA P el = some (.base (.int .u8 0)))
    {v : Value} {n : Nat} {xs : List Value} (hown : w.ownsRow 0 el 1 v n xs) {s : ByteArray} (hm : 1 ≤ s.size) (hb : n + s.size ≤ 140737488355328) :
    ∃ v' w', (Builtin.append_ #[t, ts] ty #[v, .string s]).run P w = .ok v' w' ∧ w'.ownsRow 0 el 1 v' (n + s.size) (xs ++ Lib.strCells s) ∧ w.grownBy w' v.ownBlock ∧ (v'.ownBlock = v.ownBlock ∨ v'.ownBlock = some w.heap.size) := by
  obtain ⟨i, z, hi, hzz, hsize, hby, _, _, _⟩ := elI_inv hel
  have hz' : i.zero = some (.int .u8 0) := by
    simp only [zeroA, hi, Option.bind_some, hzz, Option.map_some, Option.some.injEq] at hz
    cases z <;> simp [cv] at hz
    rw [hzz, hz.1, hz.2]
  have h63 : n + s.size ≤ maxLen := by simp only [maxLen]; omega
  have hxl : xs.length = n := by simpa using hown.1
  have hlen : (xs ++ Lib.strCells s).length = (n + s.size) * 1 := by rw [List.length_append, hxl, Lib.strCells_length, Nat.mul_one]
  have grown : ∀ (old : Nat), old < n + s.size → ∀ (row : Option Nat),
      (w.drew.alloc (.cells (xs.toArray ++ (Lib.strCells s).toArray ++ Builtin.zeroCells (Value.int .u8 0).cells (grownCap w (n + s.size) old el - (n + s.size))) el)).ownsRow 0 el 1
        (.slice (some ⟨w.heap.size, 0, none⟩) (n + s.size) (grownCap w (n + s.size) old el)) (n + s.size) (xs ++ Lib.strCells s) ∧
      w.grownBy (w.drew.alloc (.cells (xs.toArray ++ (Lib.strCells s).toArray ++ Builtin.zeroCells (Value.int .u8 0).cells (grownCap w (n + s.size) old el - (n + s.size))) el)) row := by
    intro old ho row
    have hge := grownCap_ge w (n + s.size) old el
    have hcm : grownCap w (n + s.size) old el ≤ maxLen := grownCap_le_maxLen w (n + s.size) old el h63
    refine ⟨⟨hlen, .inr ⟨w.heap.size, _, _, rfl, Nat.zero_le _, heap_alloc_new w.drew _, hge, hcm, ?_, ?_⟩⟩, ⟨rfl, rfl, rfl, by simp, fun k hk _ => heap_alloc_old w.drew _ hk⟩⟩
    · have hz1 : (Value.int IntKind.u8 0).cells.size = 1 := rfl
      simp only [Array.size_append, List.size_toArray, size_zeroCells, hz1, hxl, Lib.strCells_length]
      omega
    · simp only [Array.toList_append, List.append_assoc]
      rw [← List.append_assoc, ← hlen]
      exact List.take_left
  rcases hown.2 with ⟨rfl, rfl⟩ | ⟨g, cap, cur, rfl, hbg, hg, hnc, hcm, hcs, htake⟩
  · have hx : xs = [] := List.eq_nil_of_length_eq_zero hxl
    subst hx
    have hr := run_append_nil_string (P := P) w t ts ty el i (.int .u8 0) ht hu hi hz' s (by omega) (by omega) (by rw [hby]; omega)
    have hgr := grown 0 (by omega) (Value.ownBlock (.slice none 0 0))
    simp only [Nat.zero_add, List.nil_append, Array.empty_append] at hgr ⊢
    have e1 : (s.data.map fun b => Value.int .u8 b.toNat) = (Lib.strCells s).toArray := by
      apply Array.ext'
      simp [Lib.strCells]
    rw [e1] at hr
    exact ⟨_, _, hr, hgr.1, hgr.2, .inr rfl⟩
  · by_cases hroom : n + s.size ≤ cap
    · have hcs' : cur.size = cap := by simpa using hcs
      have hr := Lib.run_append_room_string (P := P) w t ts ty el i ht hu hi hsize g n cap cur hg s hroom (by omega)
      refine ⟨_, _, hr, ⟨hlen, .inr ⟨g, cap, _, rfl, hbg, setRow_heap w g cur _ el _ hg, hroom, hcm, ?_, ?_⟩⟩, ⟨rfl, rfl, rfl, by simp, fun k _ hk => setRow_other w g k _ (fun e => hk (by simp [Value.ownBlock, e]))⟩, .inl rfl⟩
      · simp only [List.size_toArray, List.length_append, List.length_take, List.length_drop, Array.length_toList, Lib.strCells_length]
        omega
      · have ht' : cur.toList.take n = xs := by simpa using htake
        rw [ht', ← hlen]
        exact List.take_left
    · have holds : ∀ j u, xs[j]? = some u → w.cell? ((⟨g, 0, none⟩ : Addr).add j) = some u := hown.cells (g := g) rfl
      have hr := Lib.run_append_grow_string (P := P) w t ts ty el i (.int .u8 0) ht hu hi hz' ⟨g, 0, none⟩ n cap xs (by rw [hsize]; simpa using hxl) holds s (by omega) (by omega) (by rw [hby]; exact growslice_fits (by omega) (by omega))
      have hgr := grown cap (by omega) (Value.ownBlock (.slice (some ⟨g, 0, none⟩) n cap))
      exact ⟨_, _, hr, hgr.1, hgr.2, .inr rfl⟩

theorem append_exec2 {ρ : Operand → AV} {a : Act} {o : Oper} {s x : Operand} {t ts : TypeId} {v' : Value} (ho : o.op = .call { callee := .builtin .append, args := #[s, x], argTypes := #[t, ts] })
    (hr : (Builtin.append_ #[t, ts] o.type #[a.eval s, a.eval x]).run P w = .ok v' w') : (execOp a.eval o).run P w = .ok (.value v') w' := by
  simp only [execOp, ho, resolve, invoke, builtin, Sem.run_bind, Sem.run_pure, Result.andThen_ok, List.map_toArray, List.map_cons, List.map_nil, hr]

theorem append_str_zero {t ts ty el : TypeId} (ht : P.underlying t = some (.slice el)) (hu : P.underlying ts = some .string) (hel : elI P el 1 1 = true) (a : Option Addr) (n c : Nat) (hnc : n ≤ c) {s : ByteArray} (hs : s.size = 0) :
    (Builtin.append_ #[t, ts] ty #[.slice a n c, .string s]).run P w = .ok (.slice a n c) w := by
  obtain ⟨i, z, hi, hzz, hsize, hby, _, _, _⟩ := elI_inv hel
  have hd : s.data = #[] := by
    have : s.data.size = 0 := hs
    exact Array.eq_empty_of_size_eq_zero this
  cases a with
  | none => simp [Builtin.append_, run_underlying ht, run_underlying hu, sizeOf, typeInfo, hi, Builtin.lenOf, hs, hnc, Builtin.firstCells, hd]
  | some a => simp [Builtin.append_, run_underlying ht, run_underlying hu, sizeOf, typeInfo, hi, Builtin.lenOf, hs, hnc, Builtin.firstCells, hd, storeCells]

theorem pl_append_str {ρ : Operand → AV} {s x : Operand} {t ts el : TypeId} {b tot : Nat} {l : List UInt8} {str : ByteArray} (hsv : ρ s = .own b tot 0 tot) (hx : ρ x = .base (.string str)) (hb : H[b]? = some ⟨el, 1, l.map AV.u8⟩) (htot : l.length = tot)
    (ht : P.underlying t = some (.slice el)) (hu : P.underlying ts = some .string) (hel : elI P el 1 1 = true) (hz : zeroA P el = some (.base (.int .u8 0))) (hbd : tot + str.size ≤ 140737488355328) :
    PL P H ρ (.call { callee := .builtin .append, args := #[s, x], argTypes := #[t, ts] }) (.own b (tot + str.size) 0 (tot + str.size)) (H.set b ⟨el, 1, (l ++ str.data.toList).map AV.u8⟩) := by
  refine PL.of_run fun w0 O ι a w hs hv o ho => ?_
  have h1 := hv s; rw [hsv] at h1
  have h2 := hv x; rw [hx] at h2
  have h2 := h2.base_inv
  have hmt : el < mapTy := by obtain ⟨_, _, _, _, _, _, _, _, h⟩ := elI_inv hel; exact h
  have htot' : (l.map AV.u8).length = tot := by simpa using htot
  obtain ⟨xs, k1, k2, k3, k4⟩ := own_row hs hb htot' h1 Nat.zero_lt_one hmt
  rcases Nat.eq_zero_or_pos str.size with h0 | hm
  · have hd : str.data.toList = [] := by
      have : str.data.toList.length = 0 := h0
      exact List.eq_nil_of_length_eq_zero this
    have hH : H.set b ⟨el, 1, (l ++ str.data.toList).map AV.u8⟩ = H := by
      rw [hd, List.append_nil]; apply List.ext_getElem?; intro j; rw [List.getElem?_set]; split
      · rename_i e; subst e; split
        · exact hb.symm
        · rename_i h; rw [List.getElem?_eq_none (by omega)]
      · rfl
    rw [hH, h0, Nat.add_zero]
    have hr : (Builtin.append_ #[t, ts] o.type #[a.eval s, a.eval x]).run P w = .ok (a.eval s) w := by
      rw [h2]
      rcases k4 with k4 | ⟨y, cap, k4⟩
      · rw [k4]; exact append_str_zero ht hu hel _ _ _ (Nat.le_refl _) h0
      · rw [k4]
        refine append_str_zero ht hu hel _ _ _ ?_ h0
        rcases k1.2 with ⟨e, _⟩ | ⟨g, cap', cur, e, _, _, hnc, _⟩
        · rw [k4] at e; cases e
        · rw [k4] at e; injection e with _ _ e; omega
    exact ⟨_, w, ι, _, append_exec2 (ρ := ρ) ho hr, .inl rfl, hs, ⟨fun _ _ _ h => h, fun _ _ h _ => h, fun b blk h => ⟨blk, h, Nat.le_refl _, fun _ => ⟨rfl, rfl⟩⟩, fun b x blk blk' c ty fz h1 h2 _ hi h => ⟨c, ty, fz, h, rfl⟩⟩, h1⟩
  · obtain ⟨v', w', r1, r2, r3, r4⟩ := append_str_core (P := P) (ty := o.type) ht hu hel hz k1 hm hbd
    have hes : ((str.data.toList.map AV.u8).length) = str.size := by rw [List.length_map, Array.length_toList]; rfl
    have hold : ∀ e ∈ l.map AV.u8, e.cells.length = 1 := by
      intro e he; obtain ⟨c, _, rfl⟩ := List.mem_map.1 he; rfl
    have hnews : ∀ (i j : Nat) (e d : AV), (str.data.toList.map AV.u8)[i]? = some e → e.cells[j]? = some d → ∃ u, (Lib.strCells str)[i * 1 + j]? = some u ∧ VR w (OO O ι H) ι H d u := by
      intro i j e d he hd
      rw [List.getElem?_map, Option.map_eq_some_iff] at he
      obtain ⟨c, hc, rfl⟩ := he
      cases j with
      | succ j => simp [AV.cells] at hd
      | zero =>
        simp only [AV.cells, List.getElem?_cons_zero, Option.some.injEq] at hd
        subst hd
        refine ⟨.int .u8 c.toNat, ?_, .base _⟩
        rw [Nat.mul_one, Nat.add_zero, Lib.strCells, List.getElem?_map, hc]; rfl
    rw [← hes] at r2
    obtain ⟨ι', g1, g2, g3⟩ := hs.grow (m := 0) (es := str.data.toList.map AV.u8) hb htot' hmt (by rw [hes]; exact hm) (fun e he => by obtain ⟨c, _, rfl⟩ := List.mem_map.1 he; rfl) k2 k1.1 k3 hnews hold r2 r3 r4
    simp only [← List.map_append] at g1 g2 g3
    rw [hes] at g3
    rw [← h2] at r1
    exact ⟨v', w', ι', _, append_exec2 (ρ := ρ) ho r1, .inl rfl, g1, g2, g3⟩

theorem ql_addStr {ρ : Operand → AV} {t yt : TypeId} {x y : Operand} {a b : ByteArray} (hx : ρ x = .base (.string a)) (hy : ρ y = .base (.string b)) (h : a.size + b.size ≤ 4611686018427387904) : QL P H ρ (.binOp .add t x y yt) (.base (.string (a ++ b))) := by
  refine QL.of_run fun w0 O ι A w hs hv o ho => ?_
  have h1 := hv x (by simp [Op.operands]); rw [hx] at h1
  have h1 := h1.base_inv
  have h2 := hv y (by simp [Op.operands]); rw [hy] at h2
  have h2 := h2.base_inv
  have hg : (eqGuard .add t x y (.string a) (.string b)).run P w = .ok () w := eqGuard_run (by simp) (by simp)
  have : ¬ (((a.size + b.size : Nat) : Int) > IntKind.i64.max) := by
    simp only [IntKind.max, IntKind.signed, IntKind.bits]; simp; omega
  refine ⟨.string (a ++ b), ?_, .base _⟩
  simp only [execOp, ho, h1, h2, Sem.run_bind, hg, Result.andThen_ok, binOp, Op.stringOp, if_neg this, Sem.run_pure]
def frzB (n : Nat) (el : TypeId := 5) : ABlk := ⟨frzM el, 0, List.replicate n (.agg [])⟩
theorem Sit.frz (hs : Sit w0 O ι H w) {b x m : Nat} {blk : ABlk} (hb : H[b]? = some blk) (hi : ι b = some x) (hm : blk.es.length < m) (hw' : Below x w w') (hoth : ∀ k, k ≠ x → w'.heap[k]? = w.heap[k]?) {cz : Array Value} {el : TypeId} (hr : rowAt w' x = some (cz, frzM el)) :
    Sit w0 O ι (H.set b (frzB m el)) w' ∧ Goes w (OO O ι H) ι H w' (OO O ι (H.set b (frzB m el))) ι (H.set b (frzB m el)) := by
  have hbl : b < H.length := (List.getElem?_eq_some_iff.1 hb).1
  have hfl : (frzB m el).es.length = m := by simp [frzB]
  obtain ⟨B2, hB2⟩ : ∃ B2, B2 = frzB m el := ⟨_, rfl⟩
  rw [← hB2] at hfl ⊢
  have hget : ∀ b' bk, (H.set b B2)[b']? = some bk → (b' = b ∧ bk = B2) ∨ (b' ≠ b ∧ H[b']? = some bk) := by
    intro b' bk h
    rw [List.getElem?_set] at h
    by_cases e : b = b'
    · subst e; rw [if_pos rfl, if_pos hbl] at h; injection h with h; exact .inl ⟨rfl, h.symm⟩
    · rw [if_neg e] at h; exact .inr ⟨fun e' => e e'.symm, h⟩
  have hOO : ∀ y, OO O ι (H.set b B2) y ↔ OO O ι H y := fun y => by unfold OO rng; simp
  have hxlo : w0.w.heap.size ≤ x ∨ w0.S x := (hs.heap b blk x hb hi).1
  have g : Goes w (OO O ι H) ι H w' (OO O ι (H.set b B2)) ι (H.set b B2) := by
    refine ⟨fun p u h hcell => ?_, fun p u h _ h' => h ((hOO _).1 h'), fun b' bk h => ?_, fun b' y bk bk' c1 ty fz h1 h2 h3 hi' h => ?_⟩
    · have : p.block ≠ x := fun e => h (.inr ⟨b, hbl, by rw [e]; exact hi⟩)
      rw [World.cell?_of_block (hoth _ this)]; exact hcell
    · by_cases e : b' = b
      · subst e
        rw [hb] at h; injection h with h; subst h
        exact ⟨B2, by simp [hbl], by omega, fun h => by omega⟩
      · exact ⟨bk, by rw [List.getElem?_set_ne (fun e' => e e'.symm)]; exact h, Nat.le_refl _, fun _ => ⟨rfl, rfl⟩⟩
    · rcases hget b' bk' h2 with ⟨rfl, rfl⟩ | ⟨hne, h2'⟩
      · rw [hb] at h1; injection h1 with h1; subst h1; omega
      · have hyx : y ≠ x := fun e => hne (hs.inj b' b y (List.getElem?_eq_some_iff.1 h2').1 hbl hi' (by rw [e]; exact hi))
        exact ⟨c1, ty, fz, by rw [hoth y hyx]; exact h, rfl⟩
  refine ⟨⟨fun b' bk y h hy => ?_, fun b' bk h hy => ?_, fun b1 b2 y h1 h2 => hs.inj b1 b2 y (by simpa using h1) (by simpa using h2), hs.below.change hw'.os hw'.tape hw'.output hw'.size (fun k _ hk => by
      rcases Classical.em (k = x) with e | e
      · rw [e]; exact hxlo
      · exact absurd (hoth k e) hk),
    fun y hy => Nat.lt_of_lt_of_le (hs.old y hy) hw'.size, fun y b1 hO h1 => hs.disj y b1 hO (by simpa using h1), hs.hist.trans g.grow⟩, g⟩
  · rcases hget b' bk h with ⟨rfl, rfl⟩ | ⟨hne, h'⟩
    · rw [hi] at hy; injection hy with hy; subst hy
      subst hB2
      refine ⟨hxlo, cz, hr, by simp [frzB], fun e he => ?_, fun i j e d hie hjd => ?_⟩
      · obtain ⟨_, rfl⟩ := List.mem_replicate.1 he; rfl
      · obtain ⟨_, rfl⟩ := List.mem_replicate.1 (List.mem_of_getElem? hie); simp [AV.cells] at hjd
    · obtain ⟨h3, h4⟩ := hs.heap b' bk y h' hy
      have hyx : y ≠ x := fun e => hne (hs.inj b' b y (List.getElem?_eq_some_iff.1 h').1 hbl hy (by rw [e]; exact hi))
      exact ⟨h3, h4.mono g (hoth y hyx)⟩
  · rcases hget b' bk h with ⟨rfl, rfl⟩ | ⟨hne, h'⟩
    · rw [hi] at hy; cases hy
    · exact hs.empt b' bk h' hy

theorem ql_sliceData {ρ : Operand → AV} {x : Operand} {t el ty : TypeId} {b tot : Nat} {es : List AV} (hx : ρ x = .own b tot 0 tot) (hb : H[b]? = some ⟨el, 1, es⟩) (htot : es.length = tot) (hty : P.underlying ty = some (.pointer el)) :
    QLt P H ρ (.call { callee := .builtin .unsafeSliceData, args := #[x], argTypes := #[t] }) ty (if tot = 0 then .anyp else .ptr b tot 0 0) := by
  intro o ho hot w0 O ι a w hs hv K Q hK
  have h1 := hv x (by rw [ho]; simp [Op.operands, Call.operands]); rw [hx] at h1
  have hrun : ∀ v w', (Builtin.unsafeSliceData_ #[t] o.type #[a.eval x]).run P w = .ok v w' → (execOp a.eval o).run P w = .ok (.value v) w' := fun v w' h => by
    simp only [execOp, ho, resolve, invoke, builtin, Sem.run_bind, Sem.run_pure, Result.andThen_ok, List.map_toArray, List.map_cons, List.map_nil, h]
  generalize a.eval x = X at h1 hrun
  unfold Oper.wp
  cases h1 with
  | staleOwn b tot off len blk' a n c hb' hlt => rw [hb] at hb'; cases hb'; exact absurd hlt (by simp only [htot]; omega)
  | ownNil b blk' hb' he hi =>
    rw [hrun _ _ (Lib.run_unsafeSliceData_nil w _ _ _ _)]
    exact hK _ _ (.anyp _) (Below.refl _ _)
  | own b tot off len blk' y n cap ad hb' ht' hi hn hl hcap ha =>
    rw [hb] at hb'; cases hb'
    obtain ⟨rfl, hmx, c, ty', fz, hc, hc2⟩ := ha (.inr rfl)
    by_cases h0 : cap = 0
    · subst h0
      have ht0 : tot = 0 := by omega
      rw [if_pos ht0] at hK
      rw [hrun _ _ (Lib.run_unsafeSliceData_zero w _ _ el (by rw [hot]; exact hty) _ n (ty', c.size) (by simp [World.shape?, hc]))]
      exact hK _ _ (.anyp _) ((Below.refl _ _).alloc (Nat.le_refl _) _)
    · rw [hrun _ _ (Lib.run_unsafeSliceData_row w _ _ _ _ _ h0)]
      refine hK _ _ ?_ (Below.refl _ _)
      split
      · exact .anyp _
      · have := VR.ptr (w := w) (O := OO O ι H) b tot 0 0 ⟨el, 1, es⟩ y hb htot hi ⟨c, ty', fz, hc⟩
        simpa using this

theorem execOp_b {w : World} {a : Act} {o : Oper} {bf : Builtin} {x y : Operand} {ts : Array TypeId} (ho : o.op = .call { callee := .builtin bf, args := #[x, y], argTypes := ts }) :
    (execOp a.eval o).run P w = (builtin bf ts o.type (#[x, y].map fun x => match x with | .const _ => true | _ => false) #[a.eval x, a.eval y]).run P w := by
  simp only [execOp, ho, resolve, invoke, Sem.run_bind, Sem.run_pure, Result.andThen_ok, List.map_toArray, List.map_cons, List.map_nil]
  rfl
theorem pl_unsafeString {ρ : Operand → AV} {x y : Operand} {t ti el : TypeId} {b tot : Nat} {l : List UInt8} (hx : ρ x = if tot = 0 then .anyp else .ptr b tot 0 0) (hy : ρ y = .int tot) (hb : H[b]? = some ⟨el, 1, l.map AV.u8⟩) (htot : l.length = tot) (hl : tot ≤ maxLen)
    (ht : P.underlying t = some (.pointer el)) (hc : P.cellsOf el = 1) (hmt : el < mapTy := by decide) :
    PL P H ρ (.call { callee := .builtin .unsafeString, args := #[x, y], argTypes := #[t, ti] }) (.base (.string ⟨l.toArray⟩)) (if tot = 0 then H else H.set b (frzB (tot + 1) el)) := by
  refine PL.of_run fun w0 O ι a w hs hv o ho => ?_
  have h1 := hv x; rw [hx] at h1
  have h2 := hv y; rw [hy] at h2
  have h2 := h2.base_inv
  have hrun : ∀ v w', (Builtin.unsafeString_ #[t, ti] o.type #[a.eval x, a.eval y]).run P w = .ok v w' → (execOp a.eval o).run P w = .ok (.value v) w' := fun v w' h => by
    simp only [execOp, ho, resolve, invoke, builtin, Sem.run_bind, Sem.run_pure, Result.andThen_ok, List.map_toArray, List.map_cons, List.map_nil, h]
  rw [h2] at hrun
  generalize a.eval x = X at h1 hrun
  by_cases h0 : tot = 0
  · rw [if_pos h0] at h1 ⊢
    have : l = [] := List.eq_nil_of_length_eq_zero (by omega)
    subst this
    subst h0
    cases h1 with
    | anyp p => exact ⟨_, w, ι, _, hrun _ _ (Lib.run_unsafeString_none w _ _ _ p), .inl rfl, hs, ⟨fun _ _ _ h => h, fun _ _ h _ => h, fun b blk h => ⟨blk, h, Nat.le_refl _, fun _ => ⟨rfl, rfl⟩⟩, fun b x blk blk' c ty fz h1 h2 _ hi h => ⟨c, ty, fz, h, rfl⟩⟩, .base _⟩
  · rw [if_neg h0] at h1 ⊢
    cases h1 with
    | stalePtr b tot i off blk' ad hb' hlt => rw [hb] at hb'; cases hb'; simp at hlt; omega
    | ptr b tot i off blk' z hb' ht' hi hcx =>
      rw [hb] at hb'; cases hb'
      obtain ⟨_, c, hcz, hcl, _, hrow⟩ := hs.heap b _ z hb hi
      have hcz := rowAt_inv hcz hcx hmt
      simp only at hcz hcl hrow
      have hcl : l.length ≤ c.size := by simpa using hcl
      have hcell : ∀ j y, l[j]? = some y → w.cell? ((⟨z, 0, none⟩ : Addr).add j) = some (.int .u8 y.toNat) := by
        intro j y hj
        obtain ⟨u, hu, hvu⟩ := hrow j 0 (AV.u8 y) (AV.u8 y) (by rw [List.getElem?_map, hj]; rfl) rfl
        have := hvu.base_inv
        subst this
        simp at hu
        rw [add_eq _ _ rfl]
        simpa [World.cell?, hcz] using hu
      have hr := Lib.run_unsafeString_row (P := P) w t ti o.type el ht hc z c.size (by simp [World.shape?, hcz]) l (fun e => h0 (by subst e; simpa using htot.symm)) hcl (by rw [htot]; exact Nat.le_trans hl (by decide)) hcell
      rw [htot] at hr
      have hrow' : rowAt (w.freeze ⟨z, 0, none⟩ tot) z = some (c, frzM el) := by
        unfold World.freeze
        rw [if_neg h0]
        simp only [rowAt, Array.getElem?_modify, if_true, hcz, Option.map_some, Option.bind_some, objRow, beq_self_eq_true]
        rw [if_neg (by intro h; injection h with _ h; omega)]
      have hoth : ∀ k, k ≠ z → (w.freeze ⟨z, 0, none⟩ tot).heap[k]? = w.heap[k]? := by
        intro k hk
        unfold World.freeze
        rw [if_neg h0]
        simp only [Array.getElem?_modify]
        rw [if_neg (fun e => hk e.symm)]
      obtain ⟨g1, g2⟩ := hs.frz (m := tot + 1) hb hi (by simp [htot]) (Lib.below_freeze (Below.refl z w) (p := ⟨z, 0, none⟩) (Nat.le_refl z) tot) hoth hrow'
      simp only [Nat.zero_mul, Nat.zero_add] at hrun
      exact ⟨_, _, ι, _, hrun _ _ hr, .inl rfl, g1, g2, .base _⟩

theorem szTy_inv {t : TypeId} {n : Nat} (h : szTy P t = some n) : ∃ j, P.info? t = some j ∧ j.size = n := by
  unfold szTy at h
  cases hq : P.info? t with
  | none => simp [hq] at h
  | some j => simp [hq] at h; exact ⟨j, rfl, h⟩
theorem ql_ptrNil {ρ : Operand → AV} {t te yt : TypeId} {x y : Operand} {b tot i off : Nat} (hx : ρ x = .ptr b tot i off) (hf : fresh H b tot = true) (hy : ρ y = .base (.pointer none)) (ht : P.underlying t = some (.pointer te)) : QL P H ρ (.binOp .eql t x y yt) (.bool false) := by
  refine QL.of_run fun w0 O ι A w hs hv o ho => ?_
  have h1 := hv x (by simp [Op.operands]); rw [hx] at h1
  have h2 := hv y (by simp [Op.operands]); rw [hy] at h2
  have h2 := h2.base_inv
  obtain ⟨z, blk, hi, hb, hbt, h3, hcx⟩ := h1.ptr_fresh hf
  have hp : P.pointee t = te := by simp [Program.pointee, ht]
  have he := run_equal_pointer_nil (P := P) w t (some ⟨z, i * blk.sz + off, none⟩) (by rw [hp]; exact ht)
  have hg : (eqGuard .eql t x y (.pointer (some ⟨z, i * blk.sz + off, none⟩)) (.pointer none)).run P w = .ok () w := eqGuard_run (by simp) (by simp)
  refine ⟨.bool false, ?_, .base _⟩
  simp only [execOp, ho, h3, h2, Sem.run_bind, hg, Result.andThen_ok, binOp, he, Sem.run_pure]
  rfl
theorem ql_nilNil {ρ : Operand → AV} {t te yt : TypeId} {x y : Operand} (hx : ρ x = .base (.pointer none)) (hy : ρ y = .base (.pointer none)) (ht : P.underlying t = some (.pointer te)) : QL P H ρ (.binOp .eql t x y yt) (.bool true) := by
  refine QL.of_run fun w0 O ι A w hs hv o ho => ?_
  have h1 := hv x (by simp [Op.operands]); rw [hx] at h1
  have h1 := h1.base_inv
  have h2 := hv y (by simp [Op.operands]); rw [hy] at h2
  have h2 := h2.base_inv
  have hp : P.pointee t = te := by simp [Program.pointee, ht]
  have he := run_equal_pointer_nil (P := P) w t none (by rw [hp]; exact ht)
  have hg : (eqGuard .eql t x y (.pointer none) (.pointer none)).run P w = .ok () w := eqGuard_run (by simp) (by simp)
  refine ⟨.bool true, ?_, .base _⟩
  simp only [execOp, ho, h1, h2, Sem.run_bind, hg, Result.andThen_ok, binOp, he, Sem.run_pure]
  rfl
theorem ql_ptrNeSame {ρ : Operand → AV} {t te yt : TypeId} {n : Nat} {x y : Operand} {b tot i off : Nat} (hx : ρ x = .ptr b tot i off) (hy : ρ y = .ptr b tot i off) (hf : fresh H b tot = true) (ht : P.underlying t = some (.pointer te)) (hj : szTy P te = some n) : QL P H ρ (.binOp .neq t x y yt) (.bool false) := by
  obtain ⟨j, hj, _⟩ := szTy_inv hj
  refine QL.of_run fun w0 O ι A w hs hv o ho => ?_
  have h1 := hv x (by simp [Op.operands]); rw [hx] at h1
  have h2 := hv y (by simp [Op.operands]); rw [hy] at h2
  obtain ⟨z, blk, hi, hb, hbt, h3, hcx⟩ := h1.ptr_fresh hf
  obtain ⟨z2, blk2, hi2, hb2, _, h4, _⟩ := h2.ptr_fresh hf
  rw [hi] at hi2; injection hi2 with hi2; subst hi2
  rw [hb] at hb2; injection hb2 with hb2; subst hb2
  have hg : (eqGuard .neq t x y (.pointer (some ⟨z, i * blk.sz + off, none⟩)) (.pointer (some ⟨z, i * blk.sz + off, none⟩))).run P w = .ok () w := eqGuard_run (by simp) (by simp)
  refine ⟨.bool false, ?_, .base _⟩
  simp only [execOp, ho, h3, h4, Sem.run_bind, hg, Result.andThen_ok, Lib.run_neq_ptr_same w _ ht hj, Sem.run_pure]
theorem ql_toUnsafe {ρ : Operand → AV} {s d te : TypeId} {n : Nat} {x : Operand} {b tot off : Nat} {ty sz : Nat} {e : AV} (hx : ρ x = .ptr b tot 0 off) (hb : H[b]? = some ⟨ty, sz, [e]⟩) (htot : tot = 1) (hoff : off < sz) (hs : P.underlying s = some (.pointer te)) (hd : P.underlying d = some .unsafePointer)
    (hj : szTy P te = some (n + 1)) (hmt : ty < mapTy := by decide) : QL P H ρ (.convert s d x) (.ptr b tot 0 off) := by
  obtain ⟨j, hj, hj0⟩ := szTy_inv hj
  replace hj0 : j.size ≠ 0 := by omega
  refine QL.of_run fun w0 O ι A w hsit hv o ho => ?_
  have h1 := hv x (by simp [Op.operands]); rw [hx] at h1
  obtain ⟨z, blk, hi, hb', hbt, h3, hcx⟩ := h1.ptr_fresh (by simp [fresh, hb, htot])
  rw [hb] at hb'; injection hb' with hb'; subst hb'
  obtain ⟨_, c, hcz, hcl, _, _⟩ := hsit.heap b _ z hb hi
  have hcz := rowAt_inv hcz hcx hmt
  simp at hcl hcz
  rw [h3] at h1
  refine ⟨_, ?_, h1⟩
  simp only [execOp, ho, h3, Sem.run_bind, Sem.run_pure, Result.andThen_ok, Nat.zero_mul, Nat.zero_add, Lib.run_to_unsafe w ⟨z, off, none⟩ hs hd hj hj0 (e := ty) (cells := c.size) (by simp [World.shape?, hcz]) (by show off < c.size; omega)]
theorem liesAt_self {e : TypeId} {count : Nat} (hc : 0 < P.cellsOf e) (hn : 1 ≤ count) : liesAt P P.depth e count 0 e 1 = true := by
  have hd : P.depth = (2 * (P.types.size + Made.depth) + 1) + 1 := rfl
  rw [hd]
  simp only [liesAt, Bool.or_eq_true]
  left
  rw [hd]
  have h0 : ¬ P.cellsOf e = 0 := by omega
  simp [Go.rowAt, h0, hn, sameLayout]
theorem ql_fromUnsafe {ρ : Operand → AV} {s d te : TypeId} {x : Operand} {b tot : Nat} {sz : Nat} {e : AV} (hx : ρ x = .ptr b tot 0 0) (hb : H[b]? = some ⟨te, sz, [e]⟩) (htot : tot = 1) (hs : P.underlying s = some .unsafePointer) (hd : P.underlying d = some (.pointer te))
    (hj : szTy P te = some sz) (h0 : 0 < sz) (hmt : te < mapTy := by decide) : QL P H ρ (.convert s d x) (.ptr b tot 0 0) := by
  obtain ⟨j, hj, hj0⟩ := szTy_inv hj
  have hc : P.cellsOf te = sz := by simp [Program.cellsOf, hj, hj0]
  refine QL.of_run fun w0 O ι A w hsit hv o ho => ?_
  have h1 := hv x (by simp [Op.operands]); rw [hx] at h1
  obtain ⟨z, blk, hi, hb', hbt, h3, hcx⟩ := h1.ptr_fresh (by simp [fresh, hb, htot])
  rw [hb] at hb'; injection hb' with hb'; subst hb'
  obtain ⟨_, c, hcz, hcl, _, _⟩ := hsit.heap b _ z hb hi
  have hcz := rowAt_inv hcz hcx hmt
  simp at hcl hcz
  rw [h3] at h1
  refine ⟨_, ?_, h1⟩
  have hl := liesAt_self (P := P) (e := te) (count := c.size / P.cellsOf te) (by omega) (by rw [hc]; exact (Nat.one_le_div_iff h0).2 hcl)
  simp only [execOp, ho, h3, Sem.run_bind, Sem.run_pure, Result.andThen_ok, Nat.zero_mul, Nat.zero_add, Lib.run_from_unsafe w ⟨z, 0, none⟩ hs hd hj (e := te) (cells := c.size) (by simp [World.shape?, hcz]) hl]
end
end Go.Ab
namespace Go.Ab
open Go Go.RowKit

theorem ql_extern {P : Program} {H : List ABlk} {ρ : Operand → AV} {c : Call} {fx : Operand} {f : FuncId} {fn : Func} {e : Array Value → Sem Value} {d : AV} (hf : P.funcs[f]? = some fn) (hname : (fn.name == "runtime.NumGoroutine") = false)
    (hb : fn.body.isNone = true) (hn : Extern.findNext fn = none) (he : Extern.find fn = some e) (hc : c.callee = .value fx) (hfx : ρ fx = .clo f [])
    (hrun : ∀ (w : World) (O : Nat → Prop) (ι : Nat → Option Nat) (a : Act), (∀ x ∈ c.args, VR w O ι H (ρ x) (a.eval x)) → ∃ u, (e (c.args.map a.eval)).run P w = .ok u w ∧ VR w O ι H d u) : QL P H ρ (.call c) d := by
  refine QL.of_run fun w0 O ι a w hs hv o ho => ?_
  have hmem : ∀ y, y = fx ∨ y ∈ c.args → y ∈ (Op.call c).operands := by
    intro y hy
    simp only [Op.operands, Call.operands, hc, Array.mem_append, List.mem_toArray, List.mem_singleton]
    exact hy
  have h5 := hv fx (hmem _ (.inl rfl))
  rw [hfx] at h5
  generalize hX : a.eval fx = X at h5
  cases h5 with
  | clo f caps arr hlen hcap =>
  have harr : arr = #[] := Array.eq_empty_of_size_eq_zero hlen
  subst harr
  obtain ⟨u, h1, h2⟩ := hrun w (OO O ι H) ι a fun x hx => hv x (hmem _ (.inr hx))
  refine ⟨u, ?_, h2⟩
  unfold execOp
  rw [ho]
  simp only [resolve, hc, Deferred.ofValue, hX, Sem.run_bind, Sem.run_pure, Result.andThen_ok, invoke, Array.empty_append, Array.append_empty, run_callFunc_extern hf hname hb hn he, h1]
theorem ql_noEscape {P : Program} {H : List ABlk} {ρ : Operand → AV} {x : Operand} {ts : Array TypeId} {f : FuncId} {fn : Func} {v : AV} (hf : P.funcs[f]? = some fn) (hname : (fn.name == "runtime.NumGoroutine") = false)
    (hb : fn.body.isNone = true) (hn : Extern.findNext fn = none) (he : Extern.find fn = some Extern.AbiNoEscape.same) (hx : ρ x = v) (hfx : ρ (.func f) = .clo f []) : QL P H ρ (.call { callee := .value (.func f), args := #[x], argTypes := ts }) v :=
  ql_extern hf hname hb hn he rfl hfx fun w O ι a h => ⟨a.eval x, by rw [show (#[x] : Array Operand).map a.eval = #[a.eval x] by simp]; exact Lib.run_noEscape w (a.eval x), by have := h x (by simp); rwa [hx] at this⟩

def pA (u : Bool) (b : Nat) : AV := if u then .ptr b 1 0 0 else .base (.pointer none)
def bldS (T : TypeId) (p : AV) (c n : Nat) : ABlk := ⟨T, 2, [.agg [p, .own c n 0 n]]⟩
def bldB (U : TypeId) (l : List UInt8) : ABlk := ⟨U, 1, l.map AV.u8⟩
attribute [go_sem] pA bldS bldB List.length_map beq_self_eq_true
theorem PuB_bld (U : TypeId) (l : List UInt8) : ∀ e ∈ (bldB U l).es, ∀ c ∈ e.cells, Pu c := fun e he c hc => by
  obtain ⟨x, _, rfl⟩ := List.mem_map.1 he
  simp only [AV.cells, List.mem_singleton] at hc
  subst hc; exact .base _
theorem PuB_frz (n : Nat) (el : TypeId := 5) : ∀ e ∈ (frzB n el).es, ∀ c ∈ e.cells, Pu c := fun e he c hc => by
  obtain ⟨_, rfl⟩ := List.mem_replicate.1 he
  simp [AV.cells] at hc
theorem bldS_mv {r : Nat → Option Nat} {H : List ABlk} {T : TypeId} {u : Bool} {b c b2 c2 n : Nat} (hb : r b = some b2) (hc : r c = some c2) : BlkMv r H (bldS T (pA u b) c n) (bldS T (pA u b2) c2 n) := by
  refine ⟨rfl, rfl, rfl, fun i e e2 h1 h2 => ?_⟩
  cases i with
  | succ i => simp [bldS] at h1
  | zero =>
    simp only [bldS, List.getElem?_cons_zero, Option.some.injEq] at h1 h2
    subst h1; subst h2
    refine ⟨rfl, fun k x y h3 h4 => ?_⟩
    match k with
    | 0 =>
      simp only [AV.cells, List.getElem?_cons_zero, Option.some.injEq] at h3 h4
      subst h3; subst h4
      cases u with
      | true => exact .ptr hb
      | false => exact .pu (.base _)
    | 1 =>
      simp only [AV.cells, List.getElem?_cons_zero, List.getElem?_cons_succ, Option.some.injEq] at h3 h4
      subst h3; subst h4
      exact .own hc
    | k + 2 => simp [AV.cells] at h3
section
variable {P : Program} {HC : List ABlk}
theorem ro_pair0 {b c : Nat} : ro [b, c] b = some 0 := by simp [ro, List.findIdx?_cons]
theorem ro_pair1 {b c : Nat} (h : b ≠ c) : ro [b, c] c = some 1 := by simp [ro, List.findIdx?_cons, h]
theorem pl_callBld {ρ : Operand → AV} {cl : Call} {fx : Operand} {f : FuncId} {args : List AV} {d : AV} {T : TypeId} {u u2 : Bool} {b c n n2 : Nat} {B B2 : ABlk} (hf : FnH P f (.ptr 0 1 0 0 :: args) [bldS T (pA u 0) 1 n, B] d [bldS T (pA u2 0) 1 n2, B2])
    (hb : HC[b]? = some (bldS T (pA u b) c n)) (hB : HC[c]? = some B) (hne : b ≠ c) (hp : ∀ e ∈ B.es, ∀ c ∈ e.cells, Pu c) (hp2 : ∀ e ∈ B2.es, ∀ c ∈ e.cells, Pu c) (hc : cl.callee = .value fx) (hfx : ρ fx = .clo f []) {x : Operand} {as : List Operand} (has : cl.args.toList = x :: as) (hx : ρ x = .ptr b 1 0 0)
    (ha : as.map ρ = args) (hpa : ∀ a ∈ args, Pu a) (hd : Pu d) : PL P HC ρ (.call cl) d ((HC.set b (bldS T (pA u2 b) c n2)).set c B2) := by
  have hbl := (List.getElem?_eq_some_iff.1 hb).1
  have hcl := (List.getElem?_eq_some_iff.1 hB).1
  have hrb0 : rb [b, c] HC.length 0 = some b := by simp [rb]
  have hrb1 : rb [b, c] HC.length 1 = some c := by simp [rb]
  refine pl_callH (e := [b, c]) hf ⟨by simp [hne], rfl, fun j b' h => ?_, by simp, by simp, fun b' hb' hn => ?_, fun j c' bk h h2 => ?_⟩ hc hfx ?_ (.pu hd)
  · match j with
    | 0 =>
      simp at h; subst h
      exact ⟨_, _, hb, rfl, bldS_mv ro_pair0 (ro_pair1 hne)⟩
    | 1 =>
      simp at h; subst h
      exact ⟨_, _, hB, rfl, .pu hp⟩
    | j + 2 => simp at h
  · simp at hn
    rw [List.getElem?_set_ne (by omega), List.getElem?_set_ne (by omega)]
  · match j with
    | 0 =>
      rw [hrb0] at h; injection h with h; subst h
      simp at h2; subst h2
      exact ⟨_, by rw [List.getElem?_set_ne (by omega), List.getElem?_set_self hbl], bldS_mv hrb0 hrb1⟩
    | 1 =>
      rw [hrb1] at h; injection h with h; subst h
      simp at h2; subst h2
      exact ⟨_, by rw [List.getElem?_set_self (by simpa using hcl)], .pu hp2⟩
    | j + 2 => simp at h2
  · rw [has, List.map_cons, hx, ha, List.append_nil]
    exact ⟨.ptr ro_pair0, MvL.pu hpa⟩
end
theorem Wk.bld {n : Fr} {E E2 : Env} {H1 : List ABlk} (T U : TypeId) (hp : PuBl H1) (hE : NilE (H1 ++ [⟨T, 2, [.agg [.base (.pointer none), .base (.slice none 0 0)]]⟩]) E E2) :
    Wk n ⟨E, H1 ++ [⟨T, 2, [.agg [.base (.pointer none), .base (.slice none 0 0)]]⟩]⟩ ⟨E2, H1 ++ [bldS T (pA false H1.length) (H1.length + 1) 0, bldB U []]⟩ := by
  have h : ∀ (A : List ABlk) (H : List ABlk), PuBl A → H.length = H1.length + 1 → NilB H (A ++ [⟨T, 2, [.agg [.base (.pointer none), .base (.slice none 0 0)]]⟩]) (A ++ [bldS T (pA false H1.length) (H1.length + 1) 0]) := by
    intro A
    induction A with
    | nil => exact fun H _ hl => ⟨.one ⟨.pu (.base _), .nil hl, trivial⟩, trivial⟩
    | cons a A ih => exact fun H hA hl => ⟨.pu (hA a (by simp)), ih H (fun x hx => hA x (by simp [hx])) hl⟩
  have := Wk.nilC (n := n) (H := H1 ++ [⟨T, 2, [.agg [.base (.pointer none), .base (.slice none 0 0)]]⟩]) (H2 := H1 ++ [bldS T (pA false H1.length) (H1.length + 1) 0]) U 1 (h H1 _ hp (by simp)) hE
  rw [List.append_assoc] at this
  exact this
end Go.Ab
