/- Maps with keys that are compared part by part (arrays of numbers). -/
import Derived.Test.YtpgbgclphjgdbaaAbO
import Derived.Test.YtpgbgclphjgdbaaAbI
set_option linter.unusedSimpArgs false
set_option linter.unusedVariables false
namespace Go.Ab
open Go Go.RowKit Go.MapKept

structure KeyRun {α : Type} [DecidableEq α] (P : Program) (kt : TypeId) (enc : α → Value) : Prop where
  now : ∃ d, P.underlying kt = some d ∧ ∀ a b, Instr.sameNow d (enc a) (enc b) = none
  chk : ∀ a e w, (Instr.checkKey e 10000 kt (enc a)).run P w = .ok () w
  eq : ∀ a b w, (Op.equal kt (enc a) (enc b)).run P w = .ok (decide (a = b)) w
  stays : ∀ a w, (Instr.keyThatStays (enc a) (enc a)).run P w = .ok (enc a) w
section
variable {α β : Type} [DecidableEq α] {P : Program} {w : World} {kt : TypeId} {enc : α → Value}
theorem asking_none (hk : KeyRun P kt enc) : ∀ (m : List (α × β)) (l : List MapEntry) (a : α) (i : Nat), l.map (·.key) = m.map (fun p => enc p.1) → getM m a = none → (Instr.findAsking kt (enc a) l i).run P w = .ok none w
  | [], [], a, i, _, _ => rfl
  | [], e :: l, a, i, h, _ => by simp at h
  | p :: m, [], a, i, h, _ => by simp at h
  | (k, v) :: m, e :: l, a, i, h, hg => by
    simp only [List.map_cons, List.cons.injEq] at h
    obtain ⟨h1, h2⟩ := h
    unfold getM at hg
    by_cases hka : k = a
    · rw [if_pos hka] at hg; cases hg
    · rw [if_neg hka] at hg
      have hr := hk.eq a k w
      rw [← h1] at hr
      simp only [Instr.findAsking, Sem.run_bind, hr, Result.andThen_ok]
      rw [decide_eq_false (fun h => hka h.symm)]
      exact asking_none hk m l a (i + 1) h2 hg
theorem asking_some (hk : KeyRun P kt enc) : ∀ (m : List (α × β)) (l : List MapEntry) (a : α) (v : β) (i : Nat), l.map (·.key) = m.map (fun p => enc p.1) → getM m a = some v →
    ∃ j e, (Instr.findAsking kt (enc a) l i).run P w = .ok (some (i + j, e.val)) w ∧ l[j]? = some e ∧ m[j]? = some (a, v) ∧ ∀ v', setM m a v' = m.set j (a, v')
  | [], _, a, v, i, _, hg => by cases hg
  | p :: m, [], a, v, i, h, _ => by simp at h
  | (k, x) :: m, e :: l, a, v, i, h, hg => by
    simp only [List.map_cons, List.cons.injEq] at h
    obtain ⟨h1, h2⟩ := h
    unfold getM at hg
    have hr := hk.eq a k w
    rw [← h1] at hr
    by_cases hka : k = a
    · rw [if_pos hka] at hg
      injection hg with hg; subst hg; subst hka
      refine ⟨0, e, ?_, rfl, rfl, fun v' => by simp [setM]⟩
      simp only [Instr.findAsking, Sem.run_bind, hr, Result.andThen_ok]
      simp
    · rw [if_neg hka] at hg
      obtain ⟨j, e', h3, h4, h5, h6⟩ := asking_some hk m l a v (i + 1) h2 hg
      refine ⟨j + 1, e', ?_, h4, h5, fun v' => by simp [setM, hka, h6]⟩
      simp only [Instr.findAsking, Sem.run_bind, hr, Result.andThen_ok]
      rw [decide_eq_false (fun h => hka h.symm)]
      rw [show i + (j + 1) = i + 1 + j by omega]
      exact h3
theorem findKey_ask (hk : KeyRun P kt enc) (m : List (α × β)) (l : List MapEntry) (a : α) (h : l.map (·.key) = m.map (fun p => enc p.1)) : (Instr.findKey kt (enc a) l).run P w = (Instr.findAsking kt (enc a) l 0).run P w := by
  obtain ⟨d, hd, hn⟩ := hk.now
  unfold Instr.findKey
  simp only [Sem.run_bind, run_underlying hd, Result.andThen_ok]
  match l, m, h with
  | [], _, _ => rfl
  | e :: l, [], h => simp at h
  | e :: l, p :: m, h =>
    simp only [List.map_cons, List.cons.injEq] at h
    have : Instr.findNow d (enc a) (e :: l) 0 = none := by
      simp only [Instr.findNow, h.1, hn]
    rw [this]
theorem findK_none (hk : KeyRun P kt enc) (m : List (α × β)) (l : List MapEntry) (a : α) (h : l.map (·.key) = m.map (fun p => enc p.1)) (hg : getM m a = none) : (Instr.findKey kt (enc a) l).run P w = .ok none w :=
  (findKey_ask hk m l a h).trans (asking_none hk m l a 0 h hg)
theorem findK_some (hk : KeyRun P kt enc) (m : List (α × β)) (l : List MapEntry) (a : α) (v : β) (h : l.map (·.key) = m.map (fun p => enc p.1)) (hg : getM m a = some v) :
    ∃ j e, (Instr.findKey kt (enc a) l).run P w = .ok (some (0 + j, e.val)) w ∧ l[j]? = some e ∧ m[j]? = some (a, v) ∧ ∀ v', setM m a v' = m.set j (a, v') := by
  obtain ⟨j, e, h1, h2⟩ := asking_some (w := w) hk m l a v 0 h hg
  exact ⟨j, e, (findKey_ask hk m l a h).trans h1, h2⟩
end
section
variable {P : Program} {w w' : World} {w0 : Base} {O : Nat → Prop} {ι : Nat → Option Nat} {H : List ABlk} {u : Value}
theorem lookup_runK {α β : Type} [DecidableEq α] {enc : α → Value} {f : β → AV} {m : List (α × β)} {kt et : TypeId} {t : TypeId} {z : AV} (ok : Bool) (hs : Sit w0 O ι H w) {b : Nat} (hb : H[b]? = some (mapB enc f m)) (hv : VR w (OO O ι H) ι H (.mapv b) u)
    (ht : P.underlying t = some (.map kt et)) (hk : KeyRun P kt enc) (hz : zeroA P et = some z) (a : α) :
    ∃ r, (Instr.lookup t u (enc a) ok).run P w = .ok r w ∧ VR w (OO O ι H) ι H (if ok then .tup [((getM m a).map f).getD z, .bool (getM m a).isSome] else ((getM m a).map f).getD z) r := by
  obtain ⟨x, es, k, rfl, hi, h1, h2, h3⟩ := map_inv hs hb hv
  obtain ⟨zv, hzr, rfl⟩ := zero_run (w := w) hz
  have hfin : ∀ (c : AV) (v : Value) (q : Bool), VR w (OO O ι H) ι H c v → VR w (OO O ι H) ι H (if ok then .tup [c, .bool q] else c) (if ok then .tuple #[v, .bool q] else v) := by
    intro c v q hc
    cases ok with
    | false => exact hc
    | true =>
      refine .tup _ _ rfl fun j c' u' h4 h5 => ?_
      match j with
      | 0 => simp at h4 h5; subst h4; subst h5; exact hc
      | 1 => simp at h4 h5; subst h4; subst h5; exact .base _
      | j + 2 => simp at h4
  cases hg : getM m a with
  | none =>
    have hf := findK_none (w := w) hk m es.toList a h2 hg
    refine ⟨_, ?_, hfin _ zv false (VR.cv _ _ _ _ _)⟩
    simp [Instr.lookup, run_underlying ht, MapKept.run_getObj_map h1, hk.chk a, hf, hzr, Result.andThen]
  | some v =>
    obtain ⟨j, e, hf, h4, h5, _⟩ := findK_some (w := w) hk m es.toList a v h2 hg
    refine ⟨_, ?_, hfin _ e.val true (h3 j _ e h5 h4)⟩
    simp [Instr.lookup, run_underlying ht, MapKept.run_getObj_map h1, hk.chk a, hf, Result.andThen]

theorem map_setK {α β : Type} [DecidableEq α] {enc : α → Value} {f : β → AV} {m : List (α × β)} {kt et : TypeId} {t : TypeId} (hs : Sit w0 O ι H w) {b : Nat} (hb : H[b]? = some (mapB enc f m)) (hv : VR w (OO O ι H) ι H (.mapv b) u)
    (ht : P.underlying t = some (.map kt et)) (hk : KeyRun P kt enc) (a : α) (v : β) {val : Value} (hval : VR w (OO O ι H) ι H (f v) val) :
    ∃ w', (Instr.mapUpdate t u (enc a) val).run P w = .ok () w' ∧ Sit w0 O ι (H.set b (mapB enc f (setM m a v))) w' ∧ Goes w (OO O ι H) ι H w' (OO O ι (H.set b (mapB enc f (setM m a v)))) ι (H.set b (mapB enc f (setM m a v))) := by
  obtain ⟨x, es, k, rfl, hi, h1, h2, h3⟩ := map_inv hs hb hv
  have hsz : es.size = m.length := by have := congrArg List.length h2; simpa using this
  -- what is there behind it
  have hex : ∃ es' k', (Instr.mapUpdate t (.map (some x)) (enc a) val).run P w = .ok () { w with heap := w.heap.setIfInBounds x (.map es' k') } ∧
      es'.toList.map (·.key) = (setM m a v).map (fun p => enc p.1) ∧ ∀ (j : Nat) (p : α × β) (e : MapEntry), (setM m a v)[j]? = some p → es'.toList[j]? = some e → VR w (OO O ι H) ι H (f p.2) e.val := by
    cases hg : getM m a with
    | none =>
      have hf := findK_none (w := w) hk m es.toList a h2 hg
      refine ⟨es.push ⟨enc a, val, k⟩, k + 1, ?_, ?_, fun j p e hp he => ?_⟩
      · simp [Instr.mapUpdate, run_underlying ht, MapKept.run_getObj_map h1, hk.chk a, hf, run_setObj_map _ h1, Result.andThen]
      · simp [setM_none m a v hg, h2]
      · rw [setM_none m a v hg] at hp
        simp only [Array.toList_push] at he
        by_cases hj : j < m.length
        · rw [List.getElem?_append_left hj] at hp
          rw [List.getElem?_append_left (by simpa [hsz] using hj)] at he
          exact h3 j p e hp he
        · have hj2 : j = m.length := by
            have := (List.getElem?_eq_some_iff.1 hp).1
            simp at this; omega
          subst hj2
          rw [List.getElem?_append_right (Nat.le_refl _)] at hp
          rw [List.getElem?_append_right (by simp [hsz])] at he
          simp [hsz] at hp he
          subst hp; subst he
          exact hval
    | some v0 =>
      obtain ⟨j, e, hf, h4, h5, h6⟩ := findK_some (w := w) hk m es.toList a v0 h2 hg
      have hj : es[j]? = some e := by simpa using h4
      have hje : e.key = enc a := by
        have := congrArg (fun l => l[j]?) h2
        simp only [List.getElem?_map, h4, h5, Option.map_some] at this
        injection this
      have hjl : j < m.length := (List.getElem?_eq_some_iff.1 h5).1
      refine ⟨es.modify j fun e => { e with key := enc a, val := val }, k, ?_, ?_, fun i p e' hp he => ?_⟩
      · simp [Instr.mapUpdate, run_underlying ht, MapKept.run_getObj_map h1, hk.chk a, hf, hj, hje, hk.stays a, run_setObj_map _ h1, Result.andThen]
      · rw [h6]
        apply List.ext_getElem?
        intro i
        have hi2 := congrArg (fun l => l[i]?) h2
        simp only [List.getElem?_map] at hi2
        simp only [List.getElem?_map, Array.getElem?_toList, Array.getElem?_modify, List.getElem?_set]
        rw [Array.getElem?_toList] at hi2
        by_cases hij : j = i
        · subst hij
          simp [hj, hjl]
        · simp [hij, hi2]
      · rw [h6, List.getElem?_set] at hp
        rw [Array.getElem?_toList, Array.getElem?_modify] at he
        by_cases hij : j = i
        · subst hij
          simp [hjl] at hp
          simp [hj] at he
          subst hp; subst he
          exact hval
        · rw [if_neg hij] at hp he
          exact h3 i p e' hp (by simpa using he)
  obtain ⟨es', k', hr, k1, k2⟩ := hex
  have hxl : x < w.heap.size := (Array.getElem?_eq_some_iff.1 h1).1
  have hnew : ({ w with heap := w.heap.setIfInBounds x (.map es' k') } : World).heap[x]? = some (.map es' k') := by simp [hxl]
  have hoth : ∀ k, k ≠ x → ({ w with heap := w.heap.setIfInBounds x (.map es' k') } : World).heap[k]? = w.heap[k]? := fun k hk => by simp [Ne.symm hk]
  have hsz' : es'.size = (setM m a v).length := by have := congrArg List.length k1; simpa using this
  obtain ⟨g1, g2⟩ := hs.set (w' := { w with heap := w.heap.setIfInBounds x (.map es' k') }) (b := b) (x := x) (blk := mapB enc f m) (blk2 := mapB enc f (setM m a v)) hb hi rfl rfl rfl
    ⟨rfl, rfl, rfl, by simp, fun k hk => hoth k (by omega)⟩ hoth (c := #[.agg (es.map (·.key)), .agg (es.map (·.val))]) (c' := #[.agg (es'.map (·.key)), .agg (es'.map (·.val))])
    (by rw [rowAt, h1]; rfl) (by rw [rowAt, hnew]; rfl) rfl (fun c ty fz h => by rw [h1] at h; cases h) (by simp [mapB, AV.cells]) (fun i j e c he hc => by
      cases i with
      | succ i => simp [mapB] at he
      | zero =>
        simp [mapB] at he; subst he
        match j with
        | 0 =>
          simp [AV.cells] at hc; subst hc
          refine ⟨_, rfl, .agg _ _ (by simp [hsz']) fun i c u h4 h5 => ?_⟩
          have := congrArg (fun l => l[i]?) k1
          simp only [List.getElem?_map, Array.getElem?_toList] at this
          rw [Array.getElem?_map, this] at h5
          rw [List.getElem?_map] at h4
          cases hq : (setM m a v)[i]? with
          | none => simp [hq] at h4
          | some p => simp [hq] at h4 h5; subst h4; subst h5; exact .base _
        | 1 =>
          simp [AV.cells] at hc; subst hc
          refine ⟨_, rfl, .agg _ _ (by simp [hsz']) fun i c u h4 h5 => ?_⟩
          rw [List.getElem?_map] at h4
          rw [Array.getElem?_map] at h5
          cases hq : (setM m a v)[i]? with
          | none => simp [hq] at h4
          | some p =>
            cases hq2 : es'[i]? with
            | none => simp [hq2] at h5
            | some e =>
              simp [hq] at h4; simp [hq2] at h5; subst h4; subst h5
              exact k2 i p e hq (by simpa using hq2)
        | j + 2 => simp [AV.cells] at hc)
  exact ⟨_, hr, g1, g2⟩

def enc2 (p : Int × Int) : Value := .agg #[.int .i64 p.1, .int .i64 p.2]
abbrev agg2 (p : Int × Int) : AV := .agg [.int p.1, .int p.2]
theorem VR.pair {O' : Nat → Prop} {p : Int × Int} (h : VR w O' ι H (agg2 p) u) : u = enc2 p := by
  obtain ⟨arr, rfl, h1, h2⟩ := h.agg_inv
  obtain ⟨l⟩ := arr
  match l, h1 with
  | [a, b], _ =>
    have ha := (h2 0 (.int p.1) a rfl rfl).base_inv
    have hb := (h2 1 (.int p.2) b rfl rfl).base_inv
    subst ha; subst hb; rfl
theorem chk_int {el : TypeId} (he : P.underlying el = some (.int .i64)) (e : Bool) (n : Nat) (x : Int) (w : World) : (Instr.checkKey e (n + 1) el (.int .i64 x)).run P w = .ok () w := by
  rw [Instr.checkKey]
  simp only [Sem.run_bind, run_underlying he, Result.andThen_ok]
  rfl
theorem chk_pair {kt el : TypeId} (hk : P.underlying kt = some (.array 2 el)) (he : P.underlying el = some (.int .i64)) (hsz : ∀ w, (sizeOf el).run P w = .ok 1 w) (ha : ∀ w, (isAgg el).run P w = .ok false w) (e : Bool) (n : Nat) (a : Int × Int) (w : World) :
    (Instr.checkKey e (n + 1 + 1) kt (enc2 a)).run P w = .ok () w := by
  have q := fun (x : Int) (w : World) => chk_int he e n x w
  rw [Instr.checkKey]
  simp only [enc2, Sem.run_bind, run_underlying hk, Result.andThen_ok]
  simp only [Std.Legacy.Range.forIn_eq_forIn_range', Std.Legacy.Range.size, Nat.sub_zero, Nat.add_sub_cancel, Nat.div_one, List.range'_succ, List.range'_zero, List.forIn_cons, List.forIn_nil]
  simp [part, hsz, ha, Result.andThen, Sem.run_bind, q]
theorem eqIn_pair {kt el : TypeId} (hk : P.underlying kt = some (.array 2 el)) (he : P.underlying el = some (.int .i64)) (hsz : ∀ w, (sizeOf el).run P w = .ok 1 w) (ha : ∀ w, (isAgg el).run P w = .ok false w) (n : Nat) (a b : Int × Int) (w : World) :
    (Op.equalIn (n + 1 + 1) kt (enc2 a) (enc2 b)).run P w = .ok (decide (a = b)) w := by
  rw [Op.equalIn]
  simp only [enc2, Sem.run_bind, run_underlying hk, Result.andThen_ok]
  simp only [Std.Legacy.Range.forIn_eq_forIn_range', Std.Legacy.Range.size, Nat.sub_zero, Nat.add_sub_cancel, Nat.div_one, List.range'_succ, List.range'_zero, List.forIn_cons, List.forIn_nil]
  obtain ⟨a1, a2⟩ := a
  obtain ⟨b1, b2⟩ := b
  have q := fun (x y : Int) (w : World) => run_equalIn_int (P := P) w n el .i64 .i64 x y he
  by_cases h1 : a1 = b1 <;> by_cases h2 : a2 = b2 <;> simp [part, hsz, ha, Result.andThen, Sem.run_bind, q, h1, h2]
theorem keyRun2 {kt el : TypeId} (hk : P.underlying kt = some (.array 2 el)) (he : P.underlying el = some (.int .i64)) (hsz : ∀ w, (sizeOf el).run P w = .ok 1 w) (ha : ∀ w, (isAgg el).run P w = .ok false w) : KeyRun P kt enc2 := by
  refine ⟨⟨_, hk, fun a b => rfl⟩, fun a e w => ?_, fun a b w => ?_, fun a w => ?_⟩
  · exact chk_pair hk he hsz ha e 9998 a w
  · exact eqIn_pair hk he hsz ha 9998 a b w
  · have : Instr.sameBits 10000 (enc2 a) (enc2 a) = true := by
      rw [show (10000 : Nat) = 9999 + 1 from rfl]
      simp [enc2, Instr.sameBits]
    simp [Instr.keyThatStays, this]
theorem ql_lookup2 {α β : Type} [DecidableEq α] {enc : α → Value} {f : β → AV} {m : List (α × β)} {ρ : Operand → AV} {t kt et : TypeId} {x i : Operand} {z : AV} {b : Nat} (a : α) (hx : ρ x = .mapv b) {c : AV} (hi : ρ i = c) (hc : ∀ {w : World} {O' : Nat → Prop} {ι : Nat → Option Nat} {u : Value}, VR w O' ι H c u → u = enc a) (hb : H[b]? = some (mapB enc f m))
    (ht : P.underlying t = some (.map kt et)) (hk : KeyRun P kt enc) (hz : zeroA P et = some z) : QL P H ρ (.lookup t x i false) (((getM m a).map f).getD z) := by
  refine QL.of_run fun w0 O ι A w hs hv o ho => ?_
  have h1 := hv x (by simp [Op.operands]); rw [hx] at h1
  have h2 := hv i (by simp [Op.operands]); rw [hi] at h2
  have h2 := hc h2
  obtain ⟨r, h3, h4⟩ := lookup_runK false hs hb h1 ht hk hz a
  exact ⟨r, by simp only [execOp, ho, h2, h3, Sem.run_bind, Result.andThen_ok, Sem.run_pure], h4⟩
theorem pl_mapUpdate2 {α β : Type} [DecidableEq α] (enc : α → Value) (f : β → AV) {m : List (α × β)} {ρ : Operand → AV} {t kt et : TypeId} {x i y : Operand} {b : Nat} (a : α) (v : β) (hx : ρ x = .mapv b) {c : AV} (hi : ρ i = c) (hc : ∀ {w : World} {O' : Nat → Prop} {ι : Nat → Option Nat} {u : Value}, VR w O' ι H c u → u = enc a) (hy : ρ y = f v) (hb : H[b]? = some (mapB enc f m))
    (ht : P.underlying t = some (.map kt et)) (hk : KeyRun P kt enc) : PL P H ρ (.mapUpdate t x i y) .bad (H.set b (mapB enc f (setM m a v))) := by
  refine PL.of_run fun w0 O ι A w hs hv o ho => ?_
  have h1 := hv x; rw [hx] at h1
  have h2 := hv i; rw [hi] at h2
  have h2 := hc h2
  have h3 := hv y; rw [hy] at h3
  obtain ⟨w', hr, g1, g2⟩ := map_setK (P := P) hs hb h1 ht hk a v h3
  exact ⟨undef, w', ι, .skip, by simp only [execOp, ho, h2, hr, Sem.run_bind, Result.andThen_ok, Sem.run_pure], .inr ⟨rfl, rfl⟩, g1, g2, .bad _⟩
theorem pl_insert2 {α β : Type} [DecidableEq α] (enc : α → Value) (f : β → AV) {m : List (α × β)} {ρ : Operand → AV} {t kt et : TypeId} {x i y : Operand} {b : Nat} (a : α) (v : β) (hx : ρ x = .mapv b) {c : AV} (hi : ρ i = c) (hc : ∀ {w : World} {O' : Nat → Prop} {ι : Nat → Option Nat} {u : Value}, VR w O' ι H c u → u = enc a) (hy : ρ y = f v) (hb : H[b]? = some (mapB enc f m))
    (ht : P.underlying t = some (.map kt et)) (hk : KeyRun P kt enc) : PL P H ρ (.insert t x i y) .bad (H.set b (mapB enc f (setM m a v))) := by
  refine PL.of_run fun w0 O ι A w hs hv o ho => ?_
  have h1 := hv x; rw [hx] at h1
  have h2 := hv i; rw [hi] at h2
  have h2 := hc h2
  have h3 := hv y; rw [hy] at h3
  obtain ⟨w', hr, g1, g2⟩ := map_setK (P := P) hs hb h1 ht hk a v h3
  exact ⟨undef, w', ι, .skip, by simp only [execOp, ho, h2, hr, Sem.run_bind, Result.andThen_ok, Sem.run_pure], .inr ⟨rfl, rfl⟩, g1, g2, .bad _⟩
end
end Go.Ab
namespace Go.Ab
open Go Go.RowKit

section
variable {P : Program} {n : Fr} {w w' : World} {w0 : Base} {O : Nat → Prop} {ι ι' : Nat → Option Nat} {H H' : List ABlk} {u : Value}

structure MaskFacts (st : Nat → Option Nat) (ms : Nat → List Nat) (ops : Array Oper) (k m : Nat) : Prop where
  one : ∀ i j c, i < k → j < k → st i = some c → st j = some c → i = j
  lt : ∀ i c, i < k → st i = some c → c < m
  all : ∀ c, c < m → ∃ j, j < k ∧ st j = some c
  run : ∀ i o S, i < k → ops[i]? = some o → S < 2 ^ m → (∀ j c, j < k → st j = some c → hasEdge o j = true → S.testBit c = true) → (∀ j o' c, j < k → ops[j]? = some o' → st j = some c → S.testBit c = true → hasEdge o' i = false) → (∀ c, st i = some c → S.testBit c = false) → S ∈ ms i

def runOk (st : List (Option Nat)) (ops : Array Oper) (k i S : Nat) : Bool :=
  ((List.range k).all fun j => match st.getD j none with
    | some c => (match ops[i]? with | some o => !hasEdge o j || S.testBit c | none => true) && (match ops[j]? with | some o' => !S.testBit c || !hasEdge o' i | none => true)
    | none => true) && (match st.getD i none with | some c => !S.testBit c | none => true)
def maskOk (st : List (Option Nat)) (ms : List (List Nat)) (ops : Array Oper) (k m : Nat) : Bool :=
  let is := List.range k
  (is.all fun i => is.all fun j => match st.getD i none, st.getD j none with | some c, some c' => i == j || c != c' | _, _ => true) &&
  (is.all fun i => match st.getD i none with | some c => decide (c < m) | none => true) &&
  ((List.range m).all fun c => is.any fun j => st.getD j none == some c) &&
  (is.all fun i => (List.range (2 ^ m)).all fun S => !runOk st ops k i S || (ms.getD i []).contains S)
theorem maskOk_facts {st : List (Option Nat)} {ms : List (List Nat)} {ops : Array Oper} {k m : Nat} (h : maskOk st ms ops k m = true) : MaskFacts (fun i => st.getD i none) (fun i => ms.getD i []) ops k m := by
  unfold maskOk at h
  simp only [Bool.and_eq_true] at h
  obtain ⟨⟨⟨h1, h2⟩, h3⟩, h4⟩ := h
  have m1 : ∀ {i : Nat}, i < k → i ∈ List.range k := fun h => by simpa using h
  refine ⟨fun i j c hi hj e1 e2 => ?_, fun i c hi e => ?_, fun c hc => ?_, fun i o S hi ho hS k1 k2 k3 => ?_⟩
  · have := List.all_eq_true.1 (List.all_eq_true.1 h1 i (m1 hi)) j (m1 hj)
    simp only [e1, e2] at this
    simpa using this
  · have := List.all_eq_true.1 h2 i (m1 hi)
    simp only [e] at this
    simpa using this
  · obtain ⟨j, hj, hx⟩ := List.any_eq_true.1 (List.all_eq_true.1 h3 c (by simpa using hc))
    exact ⟨j, by simpa using hj, by simpa using hx⟩
  · have := List.all_eq_true.1 (List.all_eq_true.1 h4 i (m1 hi)) S (by simpa using hS)
    have hr : runOk st ops k i S = true := by
      unfold runOk
      rw [Bool.and_eq_true]
      refine ⟨List.all_eq_true.2 fun j hj => ?_, ?_⟩
      · have hj : j < k := by simpa using hj
        cases e : st.getD j none with
        | none => rfl
        | some c =>
          simp only [ho, Bool.and_eq_true]
          refine ⟨?_, ?_⟩
          · cases e2 : hasEdge o j with
            | false => rfl
            | true => rw [k1 j c hj e e2]; rfl
          · cases e2 : ops[j]? with
            | none => rfl
            | some o' =>
              cases e3 : S.testBit c with
              | false => rfl
              | true => simp [k2 j o' c hj e2 e e3]
      · cases e : st.getD i none with
        | none => rfl
        | some c => simp only [k3 c e]; rfl
    rw [hr] at this
    simpa using this

theorem wpAny_growM {ops : Array Oper} {D : List (Option Tmp)} {k : Nat} (hD : ops.toList.map (·.dst) = D) (hgk : ops.toList.all (gOk D) = true) (hf : DrawFacts D ops k) {st : Nat → Option Nat} {m0 : Nat} {HS : Nat → List ABlk} {ms : Nat → List Nat} (hgr : MaskFacts st ms ops k m0) (hk : k ≤ ops.size) {q : Bool} {s1 s' : ASt} {O : Nat → Prop}
    {g : Nat → Nat → AV} {vs : Nat → AV} (hgk' : g k = lk s1.env) (hst : ∀ i o, ops[i]? = some o → i < k → ((st i = none ∧ ∀ S, S ∈ ms i → StepF P n (HS S) (g i) (lite D o) (vs i)) ∨ ∃ c, st i = some c ∧ ∀ S, S ∈ ms i → StepG P n (HS S) (g i) (lite D o) (vs i) (HS (S ||| 2 ^ c))) ∧ g (i + 1) = updF (g i) o.dst (vs i)) (hend0 : HS (2 ^ m0 - 1) = s1.H)
    (ht : Tr P n q ((ops.toList.drop k).map (lite D)) s1 s') :
    ∀ (fuel : Nat) (L : Array Bool) (U : List Nat) (ι : Nat → Option Nat) (S0 : Nat) (a : Act) (w : World), S0 < 2 ^ m0 → (∀ j c, j < k → st j = some c → (L.getD j false = true ↔ S0.testBit c = true)) → L.size = ops.size → (∀ j, j < k → (L.getD j false = false ↔ j ∈ U)) → U.length + (ops.size - k) ≤ fuel → (∀ j, k ≤ j → L.getD j false = false) → Closed ops L → SRF n w0 O (mix D k (g 0) (g k) L) (HS S0) ι a w →
      wpAny P .any ops (normQ w0 O n s') fuel L a w := by
  have hDi : ∀ (i : Nat) (o : Oper), ops[i]? = some o → D[i]? = some o.dst := fun i o ho => by subst hD; rw [List.getElem?_map, Array.getElem?_toList, ho]; rfl
  -- what the slots hold from step to step
  have hkeep : ∀ t i j, i ≤ j → j ≤ k → (∀ m, i ≤ m → m < j → D[m]? ≠ some (some t)) → g j t = g i t := by
    intro t i j hij
    obtain ⟨d, rfl⟩ := Nat.exists_eq_add_of_le hij
    clear hij
    induction d with
    | zero => intro _ _; rfl
    | succ d ih =>
      intro hjk hno
      generalize hjd : i + d = j at ih
      have hij : i ≤ j := by omega
      rw [show i + (d + 1) = j + 1 by omega] at hjk hno ⊢
      have ho : ops[j]? = some ops[j] := Array.getElem?_eq_getElem (by omega)
      rw [(hst j _ ho (by omega)).2]
      unfold updF
      rw [if_neg (fun e => hno j hij (by omega) (by rw [hDi j _ ho, e]))]
      exact ih (by omega) fun m hm hmj => hno m hm (by omega)
  have hwr : ∀ j o d, ops[j]? = some o → j < k → o.dst = some d → g k d = vs j ∧ ∀ i, j < i → i ≤ k → g i d = vs j := by
    intro j o d ho hj hd
    have h1 : g (j + 1) d = vs j := by rw [(hst j o ho hj).2]; simp [updF, hd]
    have h2 : ∀ i, j < i → i ≤ k → g i d = vs j := fun i hi hik => by
      rw [hkeep d (j + 1) i hi hik fun m hm hmi e => hf.one j m d hj (by omega) (by omega) (by rw [hDi j o ho, hd]) e]
      exact h1
    exact ⟨h2 k hj (Nat.le_refl _), h2⟩
  intro fuel
  have hend : ∀ (L : Array Bool) (ι : Nat → Option Nat) (a : Act) (w : World), L.size = ops.size → (∀ j, k ≤ j → L.getD j false = false) → SRF n w0 O (mix D k (g 0) (g k) L) s1.H ι a w → (∀ j, j < k → L.getD j false = true) → SR n w0 O s1 ι a w := by
    intro L ι a w hsz hL hs hall
    refine ⟨hs.sit, hs.defers, hs.size, hs.hand, fun t => ?_⟩
    have h1 := hs.vals t
    have h2 : mix D k (g 0) (g k) L t = lk s1.env t := by
      rw [← hgk']
      by_cases hex : ∃ j, j < k ∧ D[j]? = some (some t)
      · obtain ⟨j, hj, hd⟩ := hex
        exact mix_in hj (hall j hj) hd
      · rw [mix_out (fun j hj _ hd => hex ⟨j, hj, hd⟩)]
        exact (hkeep t 0 k (Nat.zero_le _) (Nat.le_refl _) fun m _ hm hd => hex ⟨m, hm, hd⟩).symm
    rwa [h2] at h1
  have htail : ∀ (L : Array Bool) (ι : Nat → Option Nat) (S0 : Nat) (a : Act) (w : World) (fuel : Nat), S0 < 2 ^ m0 → (∀ j c, j < k → st j = some c → (L.getD j false = true ↔ S0.testBit c = true)) → L.size = ops.size → (∀ j, k ≤ j → L.getD j false = false) → SRF n w0 O (mix D k (g 0) (g k) L) (HS S0) ι a w → (∀ j, j < k → L.getD j false = true) → ops.size ≤ k + fuel →
      wpAny P .any ops (normQ w0 O n s') fuel L a w := by
    intro L ι S0 a w fuel hS0 hst0 hsz hL hs hall hfu
    have hcm : S0 = 2 ^ m0 - 1 := by
      refine Nat.eq_of_testBit_eq fun i => ?_
      rw [Nat.testBit_two_pow_sub_one]
      rcases Nat.lt_or_ge i m0 with h | h
      · obtain ⟨j, hj, he⟩ := hgr.all i h
        rw [(hst0 j i hj he).1 (hall j hj)]
        simp [h]
      · rw [Nat.testBit_lt_two_pow (Nat.lt_of_lt_of_le hS0 (Nat.pow_le_pow_right (by decide) h))]
        simp; omega
    rw [hcm, hend0] at hs
    refine wpAny_tail hD hgk hf fuel k s1 L ι a w (Nat.le_refl _) hk hfu hsz (fun j hj => ?_) ht (hend L ι a w hsz hL hs hall)
    rcases Nat.lt_or_ge j k with h | h
    · rw [hall j h]; simp [h]
    · rw [hL j h]; simp; omega
  induction fuel with
  | zero =>
    intro L U ι S0 a w hc0 hst0 hsz hU hc hL hcl hs
    have hnil : U = [] := List.eq_nil_of_length_eq_zero (by omega)
    subst hnil
    exact htail L ι S0 a w 0 hc0 hst0 hsz hL hs (fun j hj => by
      cases h : L.getD j false with
      | true => rfl
      | false => exact absurd ((hU j hj).1 h) (by simp)) (by omega)
  | succ fuel ih =>
    intro L U ι S0 a w hc0 hst0 hsz hU hc hL hcl hs
    by_cases hall : ∀ j, j < k → L.getD j false = true
    · exact htail L ι S0 a w _ hc0 hst0 hsz hL hs hall (by omega)
    · have hget : ∀ i, i < ops.size → L.getD i true = L.getD i false := fun i hi => by simp [Array.getD_eq_getD_getElem?, Array.getElem?_eq_getElem (show i < L.size by omega)]
      refine ⟨fun hnil => ?_, fun i hi => ?_⟩
      · exfalso
        -- the least operation that has not run is ready
        have hex : ∃ j, j < k ∧ L.getD j false = false := by
          rcases Classical.em (∃ j, j < k ∧ L.getD j false = false) with h | h
          · exact h
          · exact absurd (fun j hj => by
              cases h' : L.getD j false with
              | true => rfl
              | false => exact absurd ⟨j, hj, h'⟩ h) hall
        obtain ⟨j, hj, hjf⟩ := hex
        have hmin : ∀ m, (∃ j, j < m ∧ j < k ∧ L.getD j false = false) → ∃ j, j < k ∧ L.getD j false = false ∧ ∀ i, i < j → L.getD i false = true := by
          intro m
          induction m with
          | zero => rintro ⟨j, h, _⟩; omega
          | succ m ihm =>
            rintro ⟨j, h1, h2, h3⟩
            by_cases h : ∃ j, j < m ∧ j < k ∧ L.getD j false = false
            · exact ihm h
            · refine ⟨j, h2, h3, fun i hi => ?_⟩
              cases h' : L.getD i false with
              | true => rfl
              | false => exact absurd ⟨i, by omega, by omega, h'⟩ h
        obtain ⟨j, hj, hjf, hlo⟩ := hmin (j + 1) ⟨j, by omega, hj, hjf⟩
        have : j ∈ Region.ready .any ops L := mem_ready.2 ⟨ops[j], Array.getElem?_eq_getElem (by omega), by rw [hget j (by omega)]; exact hjf, fun e he hb => hlo _ (hf.down j _ (Array.getElem?_eq_getElem (by omega)) e he hb)⟩
        rw [hnil] at this
        cases this
      · obtain ⟨o, ho, h1, h2⟩ := mem_ready.1 hi
        have his : i < ops.size := (Array.getElem?_eq_some_iff.1 ho).1
        rw [hget i his] at h1
        have hik : i < k := by
          rcases Nat.lt_or_ge i k with h | h
          · exact h
          · exact absurd (fun j hj => reach_listed hcl 8 (hf.tail i o ho h j (by omega)) h2) hall
        obtain ⟨h3, h4⟩ := hst i o ho hik
        have hagree : ∀ t ∈ readsOf D o, mix D k (g 0) (g k) L t = g i t := fun t htr => by
          by_cases hex : ∃ j, j < k ∧ D[j]? = some (some t)
          · obtain ⟨j, hj, hd⟩ := hex
            obtain ⟨h5, h6⟩ := hf.reads i o ho hik t htr j hj hd
            have hoj : ops[j]? = some ops[j] := Array.getElem?_eq_getElem (by omega)
            have hdj : ops[j].dst = some t := by have := hDi j _ hoj; rw [hd] at this; injection this with this; exact this.symm
            rw [mix_in hj (hasEdge_listed h6 h2) hd, (hwr j _ t hoj hj hdj).1, (hwr j _ t hoj hj hdj).2 i h5 (by omega)]
          · rw [mix_out (fun j hj _ hd => hex ⟨j, hj, hd⟩)]
            exact (hkeep t 0 i (Nat.zero_le _) (by omega) fun m _ hm hd => hex ⟨m, by omega, hd⟩).symm
        have hiU : i ∈ U := (hU i hik).1 h1
        have hgo : ∀ (ι' : Nat → Option Nat) (c1 : Nat) (a' : Act) (w' : World), c1 < 2 ^ m0 → (∀ j c, j < k → st j = some c → ((L.setIfInBounds i true).getD j false = true ↔ c1.testBit c = true)) → SRF n w0 O (updF (mix D k (g 0) (g k) L) o.dst (vs i)) (HS c1) ι' a' w' →
            wpAny P .any ops (normQ w0 O n s') fuel (L.setIfInBounds i true) a' w' := by
          intro ι' c1 a' w' hc1 hst1 hs'
          refine ih (L.setIfInBounds i true) (U.filter (· != i)) ι' c1 a' w' hc1 hst1 (by simp [hsz]) (fun j hj => ?_) ?_ (fun j hj => ?_) (hcl.set ho (by omega) h2) ?_
          · simp only [Array.getD_eq_getD_getElem?, Array.getElem?_setIfInBounds, List.mem_filter]
            by_cases e : i = j
            · subst e; simp [show i < L.size by omega]
            · have := hU j hj
              simp only [Array.getD_eq_getD_getElem?] at this
              simp only [e, if_false, this, bne_iff_ne, ne_eq]
              exact ⟨fun h => ⟨h, fun h' => e h'.symm⟩, fun h => h.1⟩
          · have : (U.filter (· != i)).length < U.length := by
              have h7 := List.length_filter_lt_length_iff_exists (l := U) (p := (· != i))
              exact h7.2 ⟨i, hiU, by simp⟩
            omega
          · simp only [Array.getD_eq_getD_getElem?, Array.getElem?_setIfInBounds]
            have := hL j hj
            simp only [Array.getD_eq_getD_getElem?] at this
            rw [if_neg (by omega)]; exact this
          · have hmx : mix D k (g 0) (g k) (L.setIfInBounds i true) = updF (mix D k (g 0) (g k) L) o.dst (vs i) := by
              funext t
              unfold updF
              by_cases e : o.dst = some t
              · rw [if_pos e, mix_in hik (by simp [Array.getD_eq_getD_getElem?, show i < L.size by omega]) (by rw [hDi i o ho, e]), (hwr i o t ho hik e).1]
              · rw [if_neg e]
                have hsame : ∀ j, D[j]? = some (some t) → (L.setIfInBounds i true).getD j false = L.getD j false := by
                  intro j hd
                  have hne : i ≠ j := fun e' => by subst e'; rw [hDi i o ho] at hd; injection hd with hd; exact e hd
                  simp only [Array.getD_eq_getD_getElem?, Array.getElem?_setIfInBounds, hne, if_false]
                by_cases hex : ∃ j, j < k ∧ L.getD j false = true ∧ D[j]? = some (some t)
                · obtain ⟨j, hj, hl, hd⟩ := hex
                  rw [mix_in hj hl hd, mix_in hj (by rw [hsame j hd]; exact hl) hd]
                · rw [mix_out (fun j hj hl hd => hex ⟨j, hj, hl, hd⟩), mix_out (fun j hj hl hd => hex ⟨j, hj, by rw [← hsame j hd]; exact hl, hd⟩)]
            rw [hmx]; exact hs'
        have hset : ∀ j, (L.setIfInBounds i true).getD j false = if i = j then true else L.getD j false := fun j => by
          simp only [Array.getD_eq_getD_getElem?, Array.getElem?_setIfInBounds]
          by_cases e : i = j
          · subst e; simp [show i < L.size by omega]
          · simp [e]
        have hgo' := List.all_eq_true.1 hgk o (by rw [← Array.getElem?_toList] at ho; exact List.mem_of_getElem? ho)
        have hrun : S0 ∈ ms i := hgr.run i o S0 hik ho hc0 (fun j c hj he hed => (hst0 j c hj he).1 (hasEdge_listed hed h2))
          (fun j o' c hj ho' he hb => by
            have h7 := (hst0 j c hj he).2 hb
            cases hed : hasEdge o' i with
            | false => rfl
            | true =>
              have := hasEdge_listed hed (hcl j o' ho' h7)
              rw [h1] at this; cases this)
          (fun c he => by
            cases hb : S0.testBit c with
            | false => rfl
            | true => have := (hst0 i c hik he).2 hb; rw [h1] at this; cases this)
        rcases h3 with ⟨hn, h3⟩ | ⟨c, hc', h3⟩
        · refine (h3 S0 hrun).run hD ho hgo' hagree hs fun a' w' hs' => hgo ι S0 a' w' hc0 (fun j c hj he => ?_) hs'
          rw [hset, if_neg (fun e => by subst e; rw [hn] at he; cases he)]
          exact hst0 j c hj he
        · refine (h3 S0 hrun).run ho hagree hs fun ι' a' w' hs' => hgo ι' (S0 ||| 2 ^ c) a' w' (Nat.or_lt_two_pow hc0 (Nat.pow_lt_pow_right (by decide) (hgr.lt i c hik hc'))) (fun j d hj he => ?_) hs'
          rw [hset, Nat.testBit_or, Nat.testBit_two_pow]
          by_cases e : i = j
          · subst e; rw [hc'] at he; injection he with he; subst he; simp
          · rw [if_neg e, hst0 j d hj he]
            have : d ≠ c := fun h => e (hgr.one i j c hik hj hc' (h ▸ he))
            simp [Ne.symm this]

inductive TrM (P : Program) (n : Fr) (HS : Nat → List ABlk) : List LOp → List (Option Nat) → List (List Nat) → Env → Env → Prop
  | nil (E : Env) : TrM P n HS [] [] [] E E
  | q (o : LOp) (l : List LOp) (sl : List (Option Nat)) (b : List Nat) (bl : List (List Nat)) (E : Env) (v : AV) (E' : Env) (h : ∀ S, S ∈ b → StepF P n (HS S) (lk E) o v) (hr : TrM P n HS l sl bl (putE E o.dst v) E') : TrM P n HS (o :: l) (none :: sl) (b :: bl) E E'
  | p (o : LOp) (l : List LOp) (sl : List (Option Nat)) (b : List Nat) (bl : List (List Nat)) (E : Env) (v : AV) (E' : Env) (c : Nat) (h : ∀ S, S ∈ b → StepG P n (HS S) (lk E) o v (HS (S ||| 2 ^ c))) (hr : TrM P n HS l sl bl (putE E o.dst v) E') : TrM P n HS (o :: l) (some c :: sl) (b :: bl) E E'

theorem TrM.all {HS : Nat → List ABlk} : ∀ {l : List LOp} {sl : List (Option Nat)} {bl : List (List Nat)} {E E' : Env}, TrM P n HS l sl bl E E' → ∃ (g : Nat → Nat → AV) (vs : Nat → AV), g 0 = lk E ∧ g l.length = lk E' ∧
    ∀ i o, l[i]? = some o → ((sl.getD i none = none ∧ ∀ S, S ∈ bl.getD i [] → StepF P n (HS S) (g i) o (vs i)) ∨ ∃ c, sl.getD i none = some c ∧ ∀ S, S ∈ bl.getD i [] → StepG P n (HS S) (g i) o (vs i) (HS (S ||| 2 ^ c))) ∧ g (i + 1) = updF (g i) o.dst (vs i)
  | _, _, _, E, _, .nil _ => ⟨fun _ => lk E, fun _ => .bad, rfl, rfl, fun i o h => by simp at h⟩
  | _, _, _, E, E', .q o l sl b bl _ v _ h hr => by
    obtain ⟨g, vs, h4, h5, h6⟩ := hr.all
    refine ⟨fun i => match i with | 0 => lk E | i + 1 => g i, fun i => match i with | 0 => v | i + 1 => vs i, rfl, h5, fun i o' ho' => ?_⟩
    cases i with
    | zero =>
      simp at ho'; subst ho'
      exact ⟨.inl ⟨rfl, h⟩, by show g 0 = _; rw [h4, lk_putE]⟩
    | succ i => exact h6 i o' (by simpa using ho')
  | _, _, _, E, E', .p o l sl b bl _ v _ c h hr => by
    obtain ⟨g, vs, h4, h5, h6⟩ := hr.all
    refine ⟨fun i => match i with | 0 => lk E | i + 1 => g i, fun i => match i with | 0 => v | i + 1 => vs i, rfl, h5, fun i o' ho' => ?_⟩
    cases i with
    | zero =>
      simp at ho'; subst ho'
      exact ⟨.inr ⟨c, rfl, h⟩, by show g 0 = _; rw [h4, lk_putE]⟩
    | succ i => exact h6 i o' (by simpa using ho')

theorem AWp.drawM {id : Nat} {ops : Array Oper} {D : List (Option Tmp)} {k : Nat} {l1 l2 : List LOp} {Q : Exit → ASt → Prop} {s : ASt} (sl : List (Option Nat)) (bl : List (List Nat)) (HS : Nat → List ABlk) (m : Nat) (hm : P.follows .mixedOrders = true) (h : RegD ops k D l1 l2)
    (hg : maskOk sl bl ops k m = true) (h0 : HS 0 = s.H) {E' : Env} (h1 : TrM P n HS l1 sl bl s.env E') (hr : ARun P n false l2 (Q .normal) ⟨E', HS (2 ^ m - 1)⟩) : AWp P n (.region id ops true) Q s := by
  intro w0 O ι a w hs
  obtain ⟨hD, hgk, hf, hk, hl1, hl2⟩ := h
  obtain ⟨s', h2, h3⟩ := hr
  have key : (Code.region id ops true).wp P (normQ w0 O n s') a w := by
    refine wp_region_any hm ?_
    obtain ⟨g, vs, hg0, hgk', hst⟩ := h1.all
    have hlen : l1.length = k := by rw [← hl1]; simp; omega
    rw [hlen] at hgk'
    have hbw : Below w.heap.size w { w with drawn := w.drawn + 1 } := (Below.refl _ _).drew
    refine wpAny_growM (s1 := ⟨E', HS (2 ^ m - 1)⟩) (st := fun i => sl.getD i none) (ms := fun i => bl.getD i []) hD hgk (drawOk_facts hf) (maskOk_facts hg) hk (g := g) (vs := vs) hgk' (fun i o ho hi => ?_) rfl (by rw [hl2]; exact h2) ops.size _ (List.range k) ι 0 a _ (Nat.two_pow_pos _) (fun j c hj hc => ?_) (by simp) (fun j hj => ?_) (by simp; omega) (fun j hj => ?_) (fun j o' _ hj => by simp only [Array.getD_eq_getD_getElem?, Array.getElem?_replicate] at hj; split at hj <;> cases hj) ?_
    · exact hst i (lite D o) (by rw [← hl1, List.getElem?_map, List.getElem?_take, if_pos hi, Array.getElem?_toList, ho]; rfl)
    · simp only [Array.getD_eq_getD_getElem?, Array.getElem?_replicate]; split <;> simp
    · simp [Array.getD_eq_getD_getElem?, hj, Array.getElem?_replicate]; split <;> rfl
    · simp only [Array.getD_eq_getD_getElem?, Array.getElem?_replicate]; split <;> rfl
    · rw [h0]
      refine ⟨hs.sit.quiet hbw, hs.defers, hs.size, hs.hand, fun t => ?_⟩
      have : mix D k (g 0) (g k) (Array.replicate ops.size false) t = lk s.env t := by
        rw [mix_out, hg0]
        intro j hj hl
        simp only [Array.getD_eq_getD_getElem?, Array.getElem?_replicate] at hl
        split at hl <;> cases hl
      rw [this]
      exact (hs.vals t).mono (Goes.quiet hs.sit hbw)
  refine wp_mono key ?_
  rintro e a w ⟨rfl, ι', h⟩
  exact ⟨s', ι', h3, h⟩


def MRun (P : Program) (n : Fr) (HS : Nat → List ABlk) (l : List LOp) (sl : List (Option Nat)) (bl : List (List Nat)) (K : Env → Prop) (E : Env) : Prop := ∃ E', TrM P n HS l sl bl E E' ∧ K E'
section
variable {HS : Nat → List ABlk} {b : List Nat} {o : LOp} {l : List LOp} {sl : List (Option Nat)} {bl : List (List Nat)} {E : Env} {v : AV} {K : Env → Prop}
theorem MRun.nil (h : K E) : MRun P n HS [] [] [] K E := ⟨E, .nil E, h⟩
theorem MRun.q1 (hg : o.g = none) (hd : dstOk n o.dst = true) (h : ∀ S, S ∈ b → QL P (HS S) (ev E) o.op v) (hr : MRun P n HS l sl bl K (putE E o.dst v)) : MRun P n HS (o :: l) (none :: sl) (b :: bl) K E :=
  let ⟨E', h1, h2⟩ := hr; ⟨E', .q o l sl b bl E v E' (fun S hS => .q1 v hg hd (by rw [show evF (lk E) = ev E from funext fun x => (ev_eq E x).symm]; exact (h S hS).t)) h1, h2⟩
theorem MRun.p1 {c : Nat} (hg : o.g = none) (hd : dstOk n o.dst = true) (h : ∀ S, S ∈ b → PLo P (HS S) (ev E) o.op v (HS (S ||| 2 ^ c))) (hr : MRun P n HS l sl bl K (putE E o.dst v)) : MRun P n HS (o :: l) (some c :: sl) (b :: bl) K E :=
  let ⟨E', h1, h2⟩ := hr; ⟨E', .p o l sl b bl E v E' c (fun S hS => ⟨hg, hd, by rw [show evF (lk E) = ev E from funext fun x => (ev_eq E x).symm]; exact h S hS⟩) h1, h2⟩
theorem AWp.drawMK {id : Nat} {ops : Array Oper} {D : List (Option Tmp)} {k : Nat} {l1 l2 : List LOp} {Q : Exit → ASt → Prop} {s : ASt} (sl : List (Option Nat)) (bl : List (List Nat)) (HS : Nat → List ABlk) (m : Nat) (hm : P.follows .mixedOrders = true) (h : RegD ops k D l1 l2)
    (hg : maskOk sl bl ops k m = true) (h0 : HS 0 = s.H) (h1 : MRun P n HS l1 sl bl (fun E' => ARun P n false l2 (Q .normal) ⟨E', HS (2 ^ m - 1)⟩) s.env) : AWp P n (.region id ops true) Q s :=
  let ⟨E', h3, h4⟩ := h1; .drawM sl bl HS m hm h hg h0 h3 h4
end

theorem Sit.fill (hs : Sit w0 O ι H w) {b : Nat} {blk0 : ABlk} (hb0 : H[b]? = some blk0) (he0 : blk0.es = []) (blk : ABlk) (hne : blk.es ≠ []) (c : Array Value) (hmt : blk.ty < mapTy) (h1 : blk.es.length * blk.sz ≤ c.size) (h2 : ∀ e ∈ blk.es, e.cells.length = blk.sz)
    (h3 : ∀ (i j : Nat) (e d : AV), blk.es[i]? = some e → e.cells[j]? = some d → ∃ u, c[i * blk.sz + j]? = some u ∧ VR w (OO O ι H) ι H d u) :
    Sit w0 O (upd ι b w.heap.size) (H.set b blk) (w.alloc (.cells c blk.ty)) ∧
    Goes w (OO O ι H) ι H (w.alloc (.cells c blk.ty)) (OO O (upd ι b w.heap.size) (H.set b blk)) (upd ι b w.heap.size) (H.set b blk) := by
  have hbl : b < H.length := (List.getElem?_eq_some_iff.1 hb0).1
  have hb : Below w.heap.size w (w.alloc (.cells c blk.ty)) := (Below.refl _ _).alloc (by omega) _
  obtain ⟨H2, hH2⟩ : ∃ H2, H2 = H.set b blk := ⟨_, rfl⟩
  rw [← hH2]
  have hlen2 : H2.length = H.length := by rw [hH2]; simp
  have hget : ∀ b' bk, H2[b']? = some bk → (b' = b ∧ bk = blk) ∨ (b' ≠ b ∧ H[b']? = some bk) := by
    intro b' bk h
    rw [hH2, List.getElem?_set] at h
    by_cases e : b = b'
    · subst e; rw [if_pos rfl, if_pos hbl] at h; injection h with h; exact .inl ⟨rfl, h.symm⟩
    · rw [if_neg e] at h; exact .inr ⟨fun e' => e e'.symm, h⟩
  have hinv : ∀ b' x, b' < H2.length → upd ι b w.heap.size b' = some x → (b' = b ∧ x = w.heap.size) ∨ (b' ≠ b ∧ b' < H.length ∧ ι b' = some x) := by
    intro b' x hb' hx
    by_cases e : b' = b
    · subst e; rw [upd_same] at hx; injection hx with hx; exact .inl ⟨rfl, hx.symm⟩
    · rw [upd_other e] at hx; exact .inr ⟨e, by omega, hx⟩
  have hrng : ∀ b x, b < H.length → ι b = some x → x < w.heap.size := fun b x hb hx => (hs.heap b _ x (List.getElem?_eq_getElem hb) hx).2.lt
  have g : Goes w (OO O ι H) ι H (w.alloc (.cells c blk.ty)) (OO O (upd ι b w.heap.size) H2) (upd ι b w.heap.size) H2 := by
    refine ⟨fun p u _ h => by rw [hb.cell (World.block_lt_of_cell? _ _ h)]; exact h, fun p u h hc => ?_, fun b' bk h => ?_, fun b' x bk bk' c' ty fz h1 h2 hl hi h => ?_⟩
    · rintro (ho | ⟨b', hbl', hx⟩)
      · exact h (.inl ho)
      · rcases hinv b' _ hbl' hx with ⟨_, e⟩ | ⟨_, h4, h5⟩
        · have := World.block_lt_of_cell? _ _ hc; omega
        · exact h (.inr ⟨b', h4, h5⟩)
    · by_cases e : b' = b
      · subst e
        rw [hb0] at h; injection h with h; subst h
        refine ⟨blk, by rw [hH2]; simp [hbl], by rw [he0]; simp, fun he => ?_⟩
        rw [he0] at he
        exact absurd (List.eq_nil_of_length_eq_zero he) hne
      · exact ⟨bk, by rw [hH2, List.getElem?_set_ne (fun e' => e e'.symm)]; exact h, Nat.le_refl _, fun _ => ⟨rfl, upd_other e⟩⟩
    · have hlt : x < w.heap.size := hrng b' x (List.getElem?_eq_some_iff.1 h1).1 hi
      exact ⟨c', ty, fz, by rw [hb.block x hlt]; exact h, rfl⟩
  refine ⟨⟨fun b' bk x h hx => ?_, fun b' bk h hx => ?_, fun b1 b2 x h h' hx hx' => ?_, hs.below.step hb, fun x hx => Nat.lt_of_lt_of_le (hs.old x hx) hb.size, fun x b' hO hbl' hx => ?_, hs.hist.trans g.grow⟩, g⟩
  · rcases hget b' bk h with ⟨rfl, rfl⟩ | ⟨hne', h'⟩
    · rw [upd_same] at hx; injection hx with hx; subst hx
      refine ⟨.inl hs.below.size, c, ?_, h1, h2, fun i j e d he hd => ?_⟩
      · rw [rowAt, heap_alloc_new w _]; simp [objRow, hmt]
      · obtain ⟨u, hu, hv⟩ := h3 i j e d he hd
        exact ⟨u, hu, hv.mono g⟩
    · rw [upd_other hne'] at hx
      obtain ⟨h6, h7⟩ := hs.heap b' bk x h' hx
      exact ⟨h6, h7.mono g (hb.block x h7.lt)⟩
  · rcases hget b' bk h with ⟨rfl, rfl⟩ | ⟨hne', h'⟩
    · rw [upd_same] at hx; cases hx
    · rw [upd_other hne'] at hx; exact hs.empt b' bk h' hx
  · rcases hinv b1 x h hx with ⟨rfl, rfl⟩ | ⟨n1, h4, h5⟩
    · rcases hinv b2 _ h' hx' with ⟨rfl, _⟩ | ⟨_, h6, h7⟩
      · rfl
      · have := hrng b2 _ h6 h7; omega
    · rcases hinv b2 x h' hx' with ⟨rfl, rfl⟩ | ⟨_, h6, h7⟩
      · have := hrng b1 _ h4 h5; omega
      · exact hs.inj b1 b2 x h4 h6 h5 h7
  · rcases hinv b' x hbl' hx with ⟨_, e⟩ | ⟨_, h4, h5⟩
    · have := hs.old x hO; omega
    · exact hs.disj x b' hO h4 h5
theorem pl_allocAt {ρ : Operand → AV} {el : TypeId} {z : AV} {b : Nat} {blk0 : ABlk} (hb0 : H[b]? = some blk0) (he0 : blk0.es = []) (hz : zeroA P el = some z) (hc : okCells z = true) (hmt : el < mapTy := by decide) : PL P H ρ (.alloc el) (.ptr b 1 0 0) (H.set b ⟨el, z.cells.length, [z]⟩) := by
  refine PL.of_run fun w0 O ι a w hs hv o ho => ?_
  obtain ⟨zv, hr, rfl⟩ := zero_run (w := w) hz
  obtain ⟨h2, h3, _⟩ := (VR.cv w (OO O ι H) ι H zv).cells hc
  have hcell : ∀ (i j : Nat) (e d : AV), [cv zv][i]? = some e → e.cells[j]? = some d → ∃ u, zv.cells[i * (cv zv).cells.length + j]? = some u ∧ VR w (OO O ι H) ι H d u := by
    intro i j e d he hd
    cases i with
    | zero =>
      simp at he; subst he
      have hj : j < zv.cells.size := by rw [h2]; exact (List.getElem?_eq_some_iff.1 hd).1
      exact ⟨_, by rw [Nat.zero_mul, Nat.zero_add]; exact Array.getElem?_eq_getElem hj, h3 j d _ hd (Array.getElem?_eq_getElem hj)⟩
    | succ i => simp at he
  obtain ⟨h4, h5⟩ := hs.fill hb0 he0 ⟨el, (cv zv).cells.length, [cv zv]⟩ (by simp) zv.cells hmt (by simp [h2]) (by simp) hcell
  have hbl : b < H.length := (List.getElem?_eq_some_iff.1 hb0).1
  refine ⟨.pointer (some ⟨w.heap.size, 0, none⟩), _, _, _, ?_, .inl rfl, h4, h5, ?_⟩
  · simp only [execOp, ho, Instr.alloc, newVar, newRow, hr, Sem.run_bind, run_newObj, World.alloc_eq, Sem.run_pure, Result.andThen_ok]
  · have := VR.ptr (w := w.alloc (.cells zv.cells el)) (O := OO O (upd ι b w.heap.size) (H.set b ⟨el, (cv zv).cells.length, [cv zv]⟩)) (ι := upd ι b w.heap.size) (H := H.set b ⟨el, (cv zv).cells.length, [cv zv]⟩)
      b 1 0 0 ⟨el, (cv zv).cells.length, [cv zv]⟩ w.heap.size (by simp [hbl]) rfl (upd_same _ _ _) ⟨_, _, _, heap_alloc_new w _⟩
    simpa using this
theorem pl_makeAt {ρ : Operand → AV} {b : Nat} {blk0 : ABlk} (hb0 : H[b]? = some blk0) (he0 : blk0.es = []) {t el : TypeId} {l c : Operand} {k k' : IntKind} {n m : Int} {z : AV} {size bytes : Nat} (hl : ρ l = .base (.int k n)) (hc : ρ c = .base (.int k' m)) (ht : P.underlying t = some (.slice el)) (hel : elI P el size bytes = true)
    (hz : zeroA P el = some z) (hzc : okCells z = true) (h0 : 0 < n) (hnm : n ≤ m) (hbd : m * bytes ≤ 140737488355328) (hm : m ≤ 140737488355328) :
    PL P H ρ (.makeSlice t l c) (.own b n.toNat 0 n.toNat) (H.set b ⟨el, size, List.replicate n.toNat z⟩) := by
  refine PL.of_run fun w0 O ι a w hs hv o ho => ?_
  have h1 := hv l; rw [hl] at h1
  have h1 := h1.base_inv
  have h2 := hv c; rw [hc] at h2
  have h2 := h2.base_inv
  obtain ⟨i0, zv', k1, k2, k3, k4, k5, k6, hmt⟩ := elI_inv hel
  obtain ⟨zv, hzr, rfl⟩ := zero_run (w := w) hz
  have hzz : zv = zv' := by
    have : (zeroValue el).run P w = .ok zv' w := by simp [zeroValue, typeInfo, k1, k2]
    rw [hzr] at this; injection this
  subst hzz
  obtain ⟨zs, hzs⟩ : ∃ zs : Array Value, (m.toNat * size = 0 ∧ zs = #[]) ∨ (m.toNat * size ≠ 0 ∧ zs = zv.cells) := by
    by_cases h0 : m.toNat * size = 0
    · exact ⟨#[], .inl ⟨h0, rfl⟩⟩
    · exact ⟨zv.cells, .inr ⟨h0, rfl⟩⟩
  obtain ⟨arr, harr⟩ : ∃ arr : Array Value, arr = (Array.range (m.toNat * size)).map (zs[· % zs.size]!) := ⟨_, rfl⟩
  have hrun : (Instr.makeSlice t (.int k n) (.int k' m)).run P w = .ok (.slice (some ⟨w.heap.size, 0, none⟩) n.toNat m.toNat) (w.alloc (.cells arr el)) := by
    have hw1 : IntKind.i64.wrap n = n := wrap_id (by omega) (by omega)
    have hw2 : IntKind.i64.wrap m = m := wrap_id (by omega) (by omega)
    have hcm : (bytes : Int) * m = m * bytes := Int.mul_comm _ _
    have hf1 : ((decide (m < 0) || decide ((bytes : Int) * m > 2 ^ 48)) || decide (n < 0) || decide (n > m)) = false := by
      simp only [Bool.or_eq_false_iff, decide_eq_false_iff_not]
      refine ⟨⟨⟨by omega, by rw [hcm]; omega⟩, by omega⟩, by omega⟩
    unfold Instr.makeSlice
    simp only [Sem.run_bind, run_underlying ht, Result.andThen_ok, asInt, asIntOf_run, Sem.run_pure, typeInfo, run_program, k1, hw1, hw2, k4]
    simp only [hf1, Bool.false_eq_true, if_false, Sem.run_bind, Sem.run_pure, Result.andThen_ok, run_askRoom, sizeOf, typeInfo, run_program, k1, k3]
    rcases hzs with ⟨e0, rfl⟩ | ⟨e0, rfl⟩
    · rw [if_pos e0]
      simp only [Sem.run_pure, Result.andThen_ok, newRow, Sem.run_bind, run_newObj, World.alloc_eq, harr]
    · rw [if_neg e0]
      simp only [Sem.run_bind, hzr, Sem.run_pure, Result.andThen_ok, newRow, run_newObj, World.alloc_eq, harr]
  obtain ⟨c1, c2, _⟩ := (VR.cv w (OO O ι H) ι H zv).cells hzc
  have hcell : ∀ (i j : Nat) (e d : AV), (List.replicate n.toNat (cv zv))[i]? = some e → e.cells[j]? = some d → ∃ u, arr[i * size + j]? = some u ∧ VR w (OO O ι H) ι H d u := by
    intro i j e d he hd
    rw [List.getElem?_replicate] at he
    split at he
    · rename_i hi
      injection he with he; subst he
      have hj : j < size := by rw [← k5, c1]; exact (List.getElem?_eq_some_iff.1 hd).1
      have hq : i * size + j < m.toNat * size := mul_lt_of (by omega) hj
      have hjz : j < zv.cells.size := by omega
      rcases hzs with ⟨e0, _⟩ | ⟨e0, rfl⟩
      · omega
      · refine ⟨zv.cells[j], ?_, c2 j d _ hd (Array.getElem?_eq_getElem hjz)⟩
        subst harr
        rw [Array.getElem?_map, Array.getElem?_eq_getElem (by simpa using hq)]
        obtain ⟨_, e2⟩ := div_of (i := i) hj
        simp only [Option.map_some, Array.getElem_range, k5, e2]
        rw [getElem!_pos zv.cells j hjz]
    · cases he
  have hlen : ∀ e ∈ List.replicate n.toNat (cv zv), e.cells.length = size := by
    intro e he
    rw [(List.mem_replicate.1 he).2, ← c1]; exact k5
  have hbl : b < H.length := (List.getElem?_eq_some_iff.1 hb0).1
  obtain ⟨h4, h5⟩ := hs.fill hb0 he0 ⟨el, size, List.replicate n.toNat (cv zv)⟩ (fun h => by have := congrArg List.length h; simp at this; omega) arr hmt (by simp only [List.length_replicate, harr, Array.size_map, Array.size_range]; exact Nat.mul_le_mul_right _ (by omega)) hlen hcell
  refine ⟨.slice (some ⟨w.heap.size, 0, none⟩) n.toNat m.toNat, _, _, .value _, ?_, .inl rfl, h4, h5, ?_⟩
  · simp only [execOp, ho, h1, h2, hrun, Sem.run_bind, Result.andThen_ok, Sem.run_pure]
  · refine .own _ _ _ _ ⟨el, size, List.replicate n.toNat (cv zv)⟩ w.heap.size _ _ _ (by simp [hbl]) (by simp) (upd_same _ _ _) rfl (by omega) (by omega) fun _ => ⟨by rw [Nat.zero_mul], by simp only [maxLen]; omega, arr, el, (0, 0), heap_alloc_new w _, by simp [harr]⟩

end
end Go.Ab
