/- Maps. -/
import Derived.MapKept
import Derived.Test.YtjfahhbobiiphaaAbF
set_option linter.unusedSimpArgs false
set_option linter.unusedVariables false
namespace Go.Ab
open Go Go.RowKit Go.MapKept

section
variable {α β : Type} [DecidableEq α]
def getM : List (α × β) → α → Option β
  | [], _ => none
  | (k, v) :: r, a => if k = a then some v else getM r a
def setM : List (α × β) → α → β → List (α × β)
  | [], a, v => [(a, v)]
  | (k, w) :: r, a, v => if k = a then (k, v) :: r else (k, w) :: setM r a v
@[simp] theorem getM_nil (a : α) : getM ([] : List (α × β)) a = none := rfl
end

def mapB {α β : Type} (enc : α → Value) (f : β → AV) (m : List (α × β)) : ABlk := ⟨mapTy, 2, [.agg [.agg (m.map fun p => .base (enc p.1)), .agg (m.map fun p => f p.2)]]⟩

structure KeyEnc {α : Type} (d : TypeDesc) (enc : α → Value) : Prop where
  key : ∀ a, IsKey d (enc a)
  inj : ∀ a b, enc a = enc b → a = b
theorem KeyEnc.int (k : IntKind) : KeyEnc (.int k) (fun n : Int => .int k n) := ⟨fun a => rfl, fun a b h => by injection h⟩
theorem KeyEnc.str : KeyEnc .string (fun s : ByteArray => .string s) := ⟨fun a => trivial, fun a b h => by injection h⟩

section
variable {α β : Type} [DecidableEq α] {d : TypeDesc} {enc : α → Value}
theorem find_none (hk : KeyEnc d enc) : ∀ (m : List (α × β)) (l : List MapEntry) (a : α) (i : Nat), l.map (·.key) = m.map (fun p => enc p.1) → getM m a = none → Instr.findNow d (enc a) l i = some none
  | [], [], a, i, _, _ => rfl
  | [], e :: l, a, i, h, _ => by simp at h
  | p :: m, [], a, i, h, _ => by simp at h
  | (k, v) :: m, e :: l, a, i, h, hg => by
    simp only [List.map_cons, List.cons.injEq] at h
    obtain ⟨h1, h2⟩ := h
    unfold getM at hg
    by_cases hka : k = a
    · rw [if_pos hka] at hg; cases hg
    · rw [if_neg hka] at hg
      obtain ⟨r, hr, hiff⟩ := sameNow_of_keys (hk.key a) (show IsKey d e.key by rw [h1]; exact hk.key k)
      cases r with
      | true => exact absurd (hk.inj _ _ ((hiff.1 rfl).trans h1)).symm hka
      | false => simp only [Instr.findNow, hr]; exact find_none hk m l a (i + 1) h2 hg
theorem find_some (hk : KeyEnc d enc) : ∀ (m : List (α × β)) (l : List MapEntry) (a : α) (v : β) (i : Nat), l.map (·.key) = m.map (fun p => enc p.1) → getM m a = some v →
    ∃ j e, Instr.findNow d (enc a) l i = some (some (i + j, e.val)) ∧ l[j]? = some e ∧ m[j]? = some (a, v) ∧ ∀ v', setM m a v' = m.set j (a, v')
  | [], _, a, v, i, _, hg => by cases hg
  | p :: m, [], a, v, i, h, _ => by simp at h
  | (k, w) :: m, e :: l, a, v, i, h, hg => by
    simp only [List.map_cons, List.cons.injEq] at h
    obtain ⟨h1, h2⟩ := h
    unfold getM at hg
    obtain ⟨r, hr, hiff⟩ := sameNow_of_keys (hk.key a) (show IsKey d e.key by rw [h1]; exact hk.key k)
    by_cases hka : k = a
    · rw [if_pos hka] at hg
      injection hg with hg; subst hg; subst hka
      have : r = true := hiff.2 h1.symm
      subst this
      exact ⟨0, e, by simp [Instr.findNow, hr], rfl, rfl, fun v' => by simp [setM]⟩
    · rw [if_neg hka] at hg
      cases r with
      | true => exact absurd (hk.inj _ _ ((hiff.1 rfl).trans h1)).symm hka
      | false =>
        obtain ⟨j, e', h3, h4, h5, h6⟩ := find_some hk m l a v (i + 1) h2 hg
        refine ⟨j + 1, e', ?_, h4, h5, fun v' => by simp [setM, hka, h6]⟩
        simp only [Instr.findNow, hr, h3]
        rw [show i + 1 + j = i + (j + 1) by omega]
theorem setM_none : ∀ (m : List (α × β)) (a : α) (v : β), getM m a = none → setM m a v = m ++ [(a, v)]
  | [], a, v, _ => rfl
  | (k, w) :: m, a, v, h => by
    unfold getM at h
    by_cases hka : k = a
    · rw [if_pos hka] at h; cases h
    · rw [if_neg hka] at h
      simp [setM, hka, setM_none m a v h]
end

section
variable {P : Program} {w w' : World} {w0 : Base} {O : Nat → Prop} {ι : Nat → Option Nat} {H : List ABlk} {u : Value}

theorem map_inv {α β : Type} {enc : α → Value} {f : β → AV} {m : List (α × β)} (hs : Sit w0 O ι H w) {b : Nat} (hb : H[b]? = some (mapB enc f m)) (hv : VR w (OO O ι H) ι H (.mapv b) u) :
    ∃ x es k, u = .map (some x) ∧ ι b = some x ∧ w.heap[x]? = some (.map es k) ∧ es.toList.map (·.key) = m.map (fun p => enc p.1) ∧
      ∀ (j : Nat) (p : α × β) (e : MapEntry), m[j]? = some p → es.toList[j]? = some e → VR w (OO O ι H) ι H (f p.2) e.val := by
  cases hv with
  | staleMap b blk a hb' h => rw [hb] at hb'; cases hb'; simp [mapB] at h
  | mapv b blk x hb' ht hi =>
    rw [hb] at hb'; cases hb'
    obtain ⟨_, c, hc, _, _, hel⟩ := hs.heap b _ x hb hi
    obtain ⟨es, k, h1, rfl⟩ := rowAt_map hc
    obtain ⟨u0, h2, h3⟩ := hel 0 0 _ _ rfl rfl
    obtain ⟨u1, h4, h5⟩ := hel 0 1 _ _ rfl rfl
    simp [mapB] at h2 h4
    subst h2; subst h4
    obtain ⟨arr, e1, e2, e3⟩ := h3.agg_inv
    injection e1 with e1; subst e1
    obtain ⟨arr, f1, f2, f3⟩ := h5.agg_inv
    injection f1 with f1; subst f1
    simp at e2 f2
    refine ⟨x, es, k, rfl, hi, h1, ?_, fun j p e hp he => ?_⟩
    · apply List.ext_getElem (by simp [e2])
      intro j g1 g2
      simp only [List.length_map] at g1 g2
      have := e3 j (.base (enc m[j].1)) (es[j]'(by simpa using g1)).key (by rw [List.getElem?_map, List.getElem?_eq_getElem g2]; rfl) (by rw [Array.getElem?_map, Array.getElem?_eq_getElem (by simpa using g1)]; rfl)
      simpa using this.base_inv
    · exact f3 j _ _ (by rw [List.getElem?_map, hp]; rfl) (by rw [Array.getElem?_map, ← Array.getElem?_toList, he]; rfl)

theorem pl_makeMap {α β : Type} (enc : α → Value) (f : β → AV) {ρ : Operand → AV} {t : TypeId} : PL P H ρ (.makeMap t none) (.mapv H.length) (H ++ [mapB enc f []]) := by
  refine PL.of_run fun w0 O ι a w hs hv o ho => ?_
  obtain ⟨h4, h5⟩ := hs.newO (mapB enc f []) #[.agg #[], .agg #[]] (.map #[] 0) (by simp [objRow, mapB]) w (Below.refl _ _) rfl (by simp [mapB]) (by simp [mapB, AV.cells]) (fun i j e c he hc => by
    cases i with
    | zero =>
      simp [mapB] at he; subst he
      match j with
      | 0 => simp [AV.cells] at hc; subst hc; exact ⟨.agg #[], rfl, .agg _ _ rfl (by simp)⟩
      | 1 => simp [AV.cells] at hc; subst hc; exact ⟨.agg #[], rfl, .agg _ _ rfl (by simp)⟩
      | j + 2 => simp [AV.cells] at hc
    | succ i => simp [mapB] at he)
  refine ⟨.map (some w.heap.size), _, _, _, ?_, .inl rfl, h4, h5, ?_⟩
  · simp only [execOp, ho, Instr.makeMap, Option.map_none, Sem.run_bind, run_newObj, World.alloc_eq, Sem.run_pure, Result.andThen_ok]
  · exact .mapv _ (mapB enc f []) _ (by simp) rfl (upd_same _ _ _)

theorem lookup_run {α β : Type} [DecidableEq α] {enc : α → Value} {f : β → AV} {m : List (α × β)} {kt et : TypeId} {d : TypeDesc} {t : TypeId} {z : AV} (ok : Bool) (hs : Sit w0 O ι H w) {b : Nat} (hb : H[b]? = some (mapB enc f m)) (hv : VR w (OO O ι H) ι H (.mapv b) u)
    (ht : P.underlying t = some (.map kt et)) (hd : P.underlying kt = some d) (hk : KeyEnc d enc) (hz : zeroA P et = some z) (a : α) :
    ∃ r, (Instr.lookup t u (enc a) ok).run P w = .ok r w ∧ VR w (OO O ι H) ι H (if ok then .tup [((getM m a).map f).getD z, .bool (getM m a).isSome] else ((getM m a).map f).getD z) r := by
  obtain ⟨x, es, k, rfl, hi, h1, h2, h3⟩ := map_inv hs hb hv
  obtain ⟨zv, hzr, rfl⟩ := zero_run (w := w) hz
  have hfin : ∀ (c : AV) (v : Value) (q : Bool), VR w (OO O ι H) ι H c v → VR w (OO O ι H) ι H (if ok then .tup [c, .bool q] else c) (if ok then .tuple #[v, .bool q] else v) := by
    intro c v q hc
    cases ok with
    | false => exact hc
    | true =>
      refine .tup _ _ rfl fun j c' u' h4 h5 => ?_
      match j with
      | 0 => simp at h4 h5; subst h4; subst h5; exact hc
      | 1 => simp at h4 h5; subst h4; subst h5; exact .base _
      | j + 2 => simp at h4
  cases hg : getM m a with
  | none =>
    have hf := find_none hk m es.toList a 0 h2 hg
    refine ⟨_, ?_, hfin _ zv false (VR.cv _ _ _ _ _)⟩
    simp [Instr.lookup, run_underlying ht, MapKept.run_getObj_map h1, run_checkKey hd (hk.key a), run_findKey hd hf, hzr, Result.andThen]
  | some v =>
    obtain ⟨j, e, hf, h4, h5, _⟩ := find_some hk m es.toList a v 0 h2 hg
    refine ⟨_, ?_, hfin _ e.val true (h3 j _ e h5 h4)⟩
    simp [Instr.lookup, run_underlying ht, MapKept.run_getObj_map h1, run_checkKey hd (hk.key a), run_findKey hd hf, Result.andThen]

theorem ql_lookupOk {α β : Type} [DecidableEq α] {enc : α → Value} {f : β → AV} {m : List (α × β)} {ρ : Operand → AV} {t kt et : TypeId} {d : TypeDesc} {x i : Operand} {z : AV} {b : Nat} (a : α) (hx : ρ x = .mapv b) (hi : ρ i = .base (enc a)) (hb : H[b]? = some (mapB enc f m))
    (ht : P.underlying t = some (.map kt et)) (hd : P.underlying kt = some d) (hk : KeyEnc d enc) (hz : zeroA P et = some z) : QL P H ρ (.lookup t x i true) (.tup [((getM m a).map f).getD z, .bool (getM m a).isSome]) := by
  refine QL.of_run fun w0 O ι A w hs hv o ho => ?_
  have h1 := hv x (by simp [Op.operands]); rw [hx] at h1
  have h2 := hv i (by simp [Op.operands]); rw [hi] at h2
  have h2 := h2.base_inv
  obtain ⟨r, h3, h4⟩ := lookup_run true hs hb h1 ht hd hk hz a
  exact ⟨r, by simp only [execOp, ho, h2, h3, Sem.run_bind, Result.andThen_ok, Sem.run_pure], h4⟩

theorem ql_len_map {α β : Type} {enc : α → Value} {f : β → AV} {m : List (α × β)} {ρ : Operand → AV} {t kt et : TypeId} {x : Operand} {b : Nat} (hx : ρ x = .mapv b) (hb : H[b]? = some (mapB enc f m))
    (ht : P.underlying t = some (.map kt et)) : QL P H ρ (.call { callee := .builtin .len, args := #[x], argTypes := #[t] }) (.int m.length) := by
  refine QL.of_run fun w0 O ι A w hs hv o ho => ?_
  have h1 := hv x (by simp [Op.operands, Call.operands]); rw [hx] at h1
  obtain ⟨y, es, k, hX, hi, h3, h4, _⟩ := map_inv hs hb h1
  have hl : es.size = m.length := by have := congrArg List.length h4; simpa using this
  refine ⟨.int .i64 m.length, ?_, .base _⟩
  simp only [execOp, ho, resolve, invoke, builtin, List.map_toArray, List.map_cons, List.map_nil, hX, Builtin.len_, run_underlying ht, MapKept.run_getObj_map h3, Sem.run_bind, Result.andThen_ok, Sem.run_pure, goInt, hl, List.getElem?_toArray, List.getElem?_cons_zero]

theorem map_set {α β : Type} [DecidableEq α] {enc : α → Value} {f : β → AV} {m : List (α × β)} {kt et : TypeId} {d : TypeDesc} {t : TypeId} (hs : Sit w0 O ι H w) {b : Nat} (hb : H[b]? = some (mapB enc f m)) (hv : VR w (OO O ι H) ι H (.mapv b) u)
    (ht : P.underlying t = some (.map kt et)) (hd : P.underlying kt = some d) (hk : KeyEnc d enc) (a : α) (v : β) {val : Value} (hval : VR w (OO O ι H) ι H (f v) val) :
    ∃ w', (Instr.mapUpdate t u (enc a) val).run P w = .ok () w' ∧ Sit w0 O ι (H.set b (mapB enc f (setM m a v))) w' ∧ Goes w (OO O ι H) ι H w' (OO O ι (H.set b (mapB enc f (setM m a v)))) ι (H.set b (mapB enc f (setM m a v))) := by
  obtain ⟨x, es, k, rfl, hi, h1, h2, h3⟩ := map_inv hs hb hv
  have hsz : es.size = m.length := by have := congrArg List.length h2; simpa using this
  -- what is there behind it
  have hex : ∃ es' k', (Instr.mapUpdate t (.map (some x)) (enc a) val).run P w = .ok () { w with heap := w.heap.setIfInBounds x (.map es' k') } ∧
      es'.toList.map (·.key) = (setM m a v).map (fun p => enc p.1) ∧ ∀ (j : Nat) (p : α × β) (e : MapEntry), (setM m a v)[j]? = some p → es'.toList[j]? = some e → VR w (OO O ι H) ι H (f p.2) e.val := by
    cases hg : getM m a with
    | none =>
      have hf := find_none hk m es.toList a 0 h2 hg
      refine ⟨es.push ⟨enc a, val, k⟩, k + 1, ?_, ?_, fun j p e hp he => ?_⟩
      · simp [Instr.mapUpdate, run_underlying ht, MapKept.run_getObj_map h1, run_checkKey hd (hk.key a), run_findKey hd hf, run_setObj_map _ h1, Result.andThen]
      · simp [setM_none m a v hg, h2]
      · rw [setM_none m a v hg] at hp
        simp only [Array.toList_push] at he
        by_cases hj : j < m.length
        · rw [List.getElem?_append_left hj] at hp
          rw [List.getElem?_append_left (by simpa [hsz] using hj)] at he
          exact h3 j p e hp he
        · have hj2 : j = m.length := by
            have := (List.getElem?_eq_some_iff.1 hp).1
            simp at this; omega
          subst hj2
          rw [List.getElem?_append_right (Nat.le_refl _)] at hp
          rw [List.getElem?_append_right (by simp [hsz])] at he
          simp [hsz] at hp he
          subst hp; subst he
          exact hval
    | some v0 =>
      obtain ⟨j, e, hf, h4, h5, h6⟩ := find_some hk m es.toList a v0 0 h2 hg
      have hj : es[j]? = some e := by simpa using h4
      have hje : e.key = enc a := by
        have := congrArg (fun l => l[j]?) h2
        simp only [List.getElem?_map, h4, h5, Option.map_some] at this
        injection this
      have hjl : j < m.length := (List.getElem?_eq_some_iff.1 h5).1
      refine ⟨es.modify j fun e => { e with key := enc a, val := val }, k, ?_, ?_, fun i p e' hp he => ?_⟩
      · simp [Instr.mapUpdate, run_underlying ht, MapKept.run_getObj_map h1, run_checkKey hd (hk.key a), run_findKey hd hf, hj, hje, run_keyThatStays (hk.key a), run_setObj_map _ h1, Result.andThen]
      · rw [h6]
        apply List.ext_getElem?
        intro i
        have hi2 := congrArg (fun l => l[i]?) h2
        simp only [List.getElem?_map] at hi2
        simp only [List.getElem?_map, Array.getElem?_toList, Array.getElem?_modify, List.getElem?_set]
        rw [Array.getElem?_toList] at hi2
        by_cases hij : j = i
        · subst hij
          simp [hj, hjl]
        · simp [hij, hi2]
      · rw [h6, List.getElem?_set] at hp
        rw [Array.getElem?_toList, Array.getElem?_modify] at he
        by_cases hij : j = i
        · subst hij
          simp [hjl] at hp
          simp [hj] at he
          subst hp; subst he
          exact hval
        · rw [if_neg hij] at hp he
          exact h3 i p e' hp (by simpa using he)
  obtain ⟨es', k', hr, k1, k2⟩ := hex
  have hxl : x < w.heap.size := (Array.getElem?_eq_some_iff.1 h1).1
  have hnew : ({ w with heap := w.heap.setIfInBounds x (.map es' k') } : World).heap[x]? = some (.map es' k') := by simp [hxl]
  have hoth : ∀ k, k ≠ x → ({ w with heap := w.heap.setIfInBounds x (.map es' k') } : World).heap[k]? = w.heap[k]? := fun k hk => by simp [Ne.symm hk]
  have hsz' : es'.size = (setM m a v).length := by have := congrArg List.length k1; simpa using this
  obtain ⟨g1, g2⟩ := hs.set (w' := { w with heap := w.heap.setIfInBounds x (.map es' k') }) (b := b) (x := x) (blk := mapB enc f m) (blk2 := mapB enc f (setM m a v)) hb hi rfl rfl rfl
    ⟨rfl, rfl, rfl, by simp, fun k hk => hoth k (by omega)⟩ hoth (c := #[.agg (es.map (·.key)), .agg (es.map (·.val))]) (c' := #[.agg (es'.map (·.key)), .agg (es'.map (·.val))])
    (by rw [rowAt, h1]; rfl) (by rw [rowAt, hnew]; rfl) rfl (fun c ty fz h => by rw [h1] at h; cases h) (by simp [mapB, AV.cells]) (fun i j e c he hc => by
      cases i with
      | succ i => simp [mapB] at he
      | zero =>
        simp [mapB] at he; subst he
        match j with
        | 0 =>
          simp [AV.cells] at hc; subst hc
          refine ⟨_, rfl, .agg _ _ (by simp [hsz']) fun i c u h4 h5 => ?_⟩
          have := congrArg (fun l => l[i]?) k1
          simp only [List.getElem?_map, Array.getElem?_toList] at this
          rw [Array.getElem?_map, this] at h5
          rw [List.getElem?_map] at h4
          cases hq : (setM m a v)[i]? with
          | none => simp [hq] at h4
          | some p => simp [hq] at h4 h5; subst h4; subst h5; exact .base _
        | 1 =>
          simp [AV.cells] at hc; subst hc
          refine ⟨_, rfl, .agg _ _ (by simp [hsz']) fun i c u h4 h5 => ?_⟩
          rw [List.getElem?_map] at h4
          rw [Array.getElem?_map] at h5
          cases hq : (setM m a v)[i]? with
          | none => simp [hq] at h4
          | some p =>
            cases hq2 : es'[i]? with
            | none => simp [hq2] at h5
            | some e =>
              simp [hq] at h4; simp [hq2] at h5; subst h4; subst h5
              exact k2 i p e hq (by simpa using hq2)
        | j + 2 => simp [AV.cells] at hc)
  exact ⟨_, hr, g1, g2⟩
theorem pl_mapUpdate {α β : Type} [DecidableEq α] (enc : α → Value) (f : β → AV) {m : List (α × β)} {ρ : Operand → AV} {t kt et : TypeId} {d : TypeDesc} {x i y : Operand} {b : Nat} (a : α) (v : β) (hx : ρ x = .mapv b) (hi : ρ i = .base (enc a)) (hy : ρ y = f v) (hb : H[b]? = some (mapB enc f m))
    (ht : P.underlying t = some (.map kt et)) (hd : P.underlying kt = some d) (hk : KeyEnc d enc) : PL P H ρ (.mapUpdate t x i y) .bad (H.set b (mapB enc f (setM m a v))) := by
  refine PL.of_run fun w0 O ι A w hs hv o ho => ?_
  have h1 := hv x; rw [hx] at h1
  have h2 := hv i; rw [hi] at h2
  have h2 := h2.base_inv
  have h3 := hv y; rw [hy] at h3
  obtain ⟨w', hr, g1, g2⟩ := map_set (P := P) hs hb h1 ht hd hk a v h3
  exact ⟨undef, w', ι, .skip, by simp only [execOp, ho, h2, hr, Sem.run_bind, Result.andThen_ok, Sem.run_pure], .inr ⟨rfl, rfl⟩, g1, g2, .bad _⟩
theorem pl_insert {α β : Type} [DecidableEq α] (enc : α → Value) (f : β → AV) {m : List (α × β)} {ρ : Operand → AV} {t kt et : TypeId} {d : TypeDesc} {x i y : Operand} {b : Nat} (a : α) (v : β) (hx : ρ x = .mapv b) (hi : ρ i = .base (enc a)) (hy : ρ y = f v) (hb : H[b]? = some (mapB enc f m))
    (ht : P.underlying t = some (.map kt et)) (hd : P.underlying kt = some d) (hk : KeyEnc d enc) : PL P H ρ (.insert t x i y) .bad (H.set b (mapB enc f (setM m a v))) := by
  refine PL.of_run fun w0 O ι A w hs hv o ho => ?_
  have h1 := hv x; rw [hx] at h1
  have h2 := hv i; rw [hi] at h2
  have h2 := h2.base_inv
  have h3 := hv y; rw [hy] at h3
  obtain ⟨w', hr, g1, g2⟩ := map_set (P := P) hs hb h1 ht hd hk a v h3
  exact ⟨undef, w', ι, .skip, by simp only [execOp, ho, h2, hr, Sem.run_bind, Result.andThen_ok, Sem.run_pure], .inr ⟨rfl, rfl⟩, g1, g2, .bad _⟩
end

theorem MvR.mapv {r : Nat → Option Nat} {H : List ABlk} {b j : Nat} (hb : r b = some j) : MvR r H (.mapv b) (.mapv j) := fun H2 w O ι ι2 u v hu => by
  cases hu with
  | staleMap b blk a h1 h2 =>
    obtain ⟨blk2, e1, e2, e3, e4⟩ := v b j blk hb h1
    exact .staleMap _ blk2 _ e1 (by omega)
  | mapv b blk x h1 ht hi =>
    obtain ⟨blk2, e1, e2, e3, e4⟩ := v b j blk hb h1
    exact .mapv _ blk2 x e1 (e2.trans ht) (e4.trans hi)
theorem PubR.mapv {r : Nat → Option Nat} {H : List ABlk} {b j : Nat} (hb : r b = some j) : PubR r H (.mapv b) (.mapv j) := fun H2 w0 w O ι ι2 u hs v hu => by
  cases hu with
  | staleMap b blk a h1 h2 =>
    obtain ⟨blk2, e1, e2, e3, e4⟩ := v.idx b j blk hb h1
    exact .staleMap _ blk2 _ e1 (by omega)
  | mapv b blk x h1 ht hi =>
    obtain ⟨blk2, e1, e2, e3, e4⟩ := v.idx b j blk hb h1
    exact .mapv _ blk2 x e1 (e2.trans ht) (e4.trans hi)
end Go.Ab
namespace Go.Ab
open Go Go.RowKit
section
variable {P : Program} {s : ASt} {rs : List ResultVar}
theorem Ret.ff {p : Prop} [Decidable p] (h : resVals P s rs = some [AV.bool false]) (hp : ¬ p) : Ret P rs (.bool (decide p)) s :=
  Ret.bool h (by simp [hp])
theorem Ret.tt {p : Prop} [Decidable p] (h : resVals P s rs = some [AV.bool true]) (hp : p) : Ret P rs (.bool (decide p)) s :=
  Ret.bool h (by simp [hp])
end
end Go.Ab
namespace Go.Ab
open Go Go.RowKit
theorem pubB {H H2 : List ABlk} {k : Nat} (h : PuBl H2) : ∀ blk ∈ H2, ∀ e ∈ blk.es, ∀ c ∈ e.cells, Pub H k c c := fun blk h1 e h2 c h3 => .pu (h blk h1 e h2 c h3)
theorem PuBl.nil : PuBl [] := fun _ h => nomatch h
theorem PuBl.cons {b : ABlk} {H : List ABlk} (h : ∀ e ∈ b.es, ∀ c ∈ e.cells, Pu c) (h2 : PuBl H) : PuBl (b :: H) := fun x hx => by
  rcases List.mem_cons.1 hx with rfl | hx
  · exact h
  · exact h2 x hx
end Go.Ab
