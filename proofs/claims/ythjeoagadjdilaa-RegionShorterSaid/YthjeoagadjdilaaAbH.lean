/- Weakening, and the way from a body to what a function gives. -/
import Derived.Test.YthjeoagadjdilaaAbG
set_option linter.unusedSimpArgs false
set_option linter.unusedVariables false
namespace Go.Ab
open Go Go.RowKit
set_option linter.unusedVariables false

/-- a says no less than b -/
def Le (a b : AV) : Prop := ∀ (w : World) (O : Nat → Prop) (ι : Nat → Option Nat) (H : List ABlk) (u : Value), VR w O ι H a u → VR w O ι H b u
theorem Le.refl (a : AV) : Le a a := fun _ _ _ _ _ h => h
theorem Le.bad (a : AV) : Le a .bad := fun _ _ _ _ _ _ => .bad _
theorem Le.of_eq {a b : AV} (h : a = b) : Le a b := h ▸ .refl a
theorem Le.under_true (a : AV) : Le (.under true a) a := fun _ _ _ _ _ h => h.under_inv rfl

theorem lk_mem : ∀ (E : Env) (t : Nat), lk E t = .bad ∨ ∃ p ∈ E, p.1 = t ∧ lk E t = p.2
  | [], t => .inl rfl
  | (k, v) :: E, t => by
    unfold lk
    split
    · rename_i h; exact .inr ⟨(k, v), by simp, h, rfl⟩
    · rcases lk_mem E t with h | ⟨p, h1, h2, h3⟩
      · exact .inl h
      · exact .inr ⟨p, by simp [h1], h2, h3⟩

theorem Wk.env {E E2 : Env} {H : List ABlk} (h : ∀ p ∈ E2, Le (lk E p.1) p.2) : Wk ⟨E, H⟩ ⟨E2, H⟩ := fun n w0 O ι a w hs =>
  ⟨ι, hs.sit, hs.defers, hs.size, fun t => by
    rcases lk_mem E2 t with h1 | ⟨p, hp, h1, h2⟩
    · show VR _ _ _ _ (lk E2 t) _; rw [h1]; exact .bad _
    · show VR _ _ _ _ (lk E2 t) _; rw [h2]; subst h1; exact h p hp _ _ _ _ _ (hs.vals p.1)⟩

/-- seen with the first k own blocks alone, a is b -/
def Pub (H : List ABlk) (k : Nat) (a b : AV) : Prop := ∀ (w0 w : World) (O : Nat → Prop) (ι : Nat → Option Nat) (u : Value), Sit w0 O ι H w → VR w (OO O ι H) ι H a u → VR w (OO O ι (H.take k)) ι (H.take k) b u

section
variable {H : List ABlk} {k : Nat}
theorem OO_take {O : Nat → Prop} {ι : Nat → Option Nat} {x : Nat} (h : OO O ι (H.take k) x) : OO O ι H x := by
  rcases h with h | ⟨b, hb, hx⟩
  · exact .inl h
  · exact .inr ⟨b, by simp at hb; omega, hx⟩
theorem Pub.pu {a : AV} (h : Pu a) : Pub H k a a := fun w0 w O ι u hs hu => ((h _ _ _ _ _ hu).lessO fun x hx => OO_take hx).back
theorem Pub.bad (a : AV) : Pub H k a .bad := fun _ _ _ _ _ _ _ => .bad _
theorem Pub.le {a b c : AV} (h : Le a b) (h2 : Pub H k b c) : Pub H k a c := fun w0 w O ι u hs hu => h2 w0 w O ι u hs (h _ _ _ _ _ hu)
theorem Pub.agg {cs ds : List AV} (hl : cs.length = ds.length) (h : ∀ (j : Nat) (c d : AV), cs[j]? = some c → ds[j]? = some d → Pub H k c d) : Pub H k (.agg cs) (.agg ds) := fun w0 w O ι u hs hu => by
  obtain ⟨arr, rfl, h1, h2⟩ := hu.agg_inv
  refine .agg ds arr (h1.trans hl) fun j d u hd hu => ?_
  have hj : j < cs.length := by rw [hl]; exact (List.getElem?_eq_some_iff.1 hd).1
  exact h j _ d (List.getElem?_eq_getElem hj) hd w0 w O ι u hs (h2 j _ u (List.getElem?_eq_getElem hj) hu)
theorem Pub.tup {cs ds : List AV} (hl : cs.length = ds.length) (h : ∀ (j : Nat) (c d : AV), cs[j]? = some c → ds[j]? = some d → Pub H k c d) : Pub H k (.tup cs) (.tup ds) := fun w0 w O ι u hs hu => by
  obtain ⟨arr, rfl, h1, h2⟩ := hu.tup_inv
  refine .tup ds arr (h1.trans hl) fun j d u hd hu => ?_
  have hj : j < cs.length := by rw [hl]; exact (List.getElem?_eq_some_iff.1 hd).1
  exact h j _ d (List.getElem?_eq_getElem hj) hd w0 w O ι u hs (h2 j _ u (List.getElem?_eq_getElem hj) hu)
theorem Pub.nilS : Pub H k (.base (.slice none 0 0)) (.lst []) := fun w0 w O ι u hs hu => by
  have := hu.base_inv; subst this; exact .lnil

theorem getElem?_take_some {b : Nat} {blk : ABlk} (hb : b < k) (h : H[b]? = some blk) : (H.take k)[b]? = some blk := by rw [List.getElem?_take, if_pos hb]; exact h
theorem take_getElem? {b : Nat} {blk : ABlk} (h : (H.take k)[b]? = some blk) : b < k ∧ H[b]? = some blk := by
  rw [List.getElem?_take] at h
  split at h
  · exact ⟨‹_›, h⟩
  · cases h

/-- a pointer to, a slice of a block that stays -/
theorem Pub.ptr {b tot i off : Nat} (hb : b < k) : Pub H k (.ptr b tot i off) (.ptr b tot i off) := fun w0 w O ι u hs hu => by
  cases hu with
  | stalePtr b tot i off blk a h1 h2 => exact .stalePtr _ _ _ _ blk _ (getElem?_take_some hb h1) h2
  | ptr b tot i off blk x h1 ht hi => exact .ptr _ _ _ _ blk x (getElem?_take_some hb h1) ht hi
theorem Pub.own {b tot off len : Nat} (hb : b < k) : Pub H k (.own b tot off len) (.own b tot off len) := fun w0 w O ι u hs hu => by
  cases hu with
  | staleOwn b tot off len blk a n c h1 h2 => exact .staleOwn _ _ _ _ blk _ _ _ (getElem?_take_some hb h1) h2
  | ownNil b blk h1 he hi => exact .ownNil b blk (getElem?_take_some hb h1) he hi
  | own b tot off len blk x n cap a h1 ht hi hn hl hcap ha => exact .own _ _ _ _ blk x n cap a (getElem?_take_some hb h1) ht hi hn hl hcap ha

theorem not_OO_take {w0 w : World} {O : Nat → Prop} {ι : Nat → Option Nat} (hs : Sit w0 O ι H w) {b x : Nat} {blk : ABlk} (h1 : H[b]? = some blk) (hk : k ≤ b) (hi : ι b = some x) : ¬ OO O ι (H.take k) x := by
  have hbl : b < H.length := (List.getElem?_eq_some_iff.1 h1).1
  rintro (h | ⟨b', hb', hx⟩)
  · exact absurd (hs.old x h) (by have := (hs.heap b blk x h1 hi).1; omega)
  · simp at hb'
    have := hs.inj b b' x hbl (by omega) hi hx
    omega

/-- a slice of a block that goes out of sight becomes data -/
theorem Pub.lst {b tot off len : Nat} {blk : ABlk} {ds : List AV} (hk : k ≤ b) (h1 : H[b]? = some blk) (ht : blk.es.length = tot) (hl : off + len ≤ tot) (hdl : ds.length = len)
    (hd : ∀ (i : Nat) (e d : AV), i < len → blk.es[off + i]? = some e → ds[i]? = some d → e.cells.length = d.cells.length ∧ ∀ (j : Nat) (c c' : AV), e.cells[j]? = some c → d.cells[j]? = some c' → Pub H k c c') :
    Pub H k (.own b tot off len) (.lst ds) := fun w0 w O ι u hs hu => by
  have hbl : b < H.length := (List.getElem?_eq_some_iff.1 h1).1
  cases hu with
  | staleOwn b tot off len blk' a n c h1' h2 => rw [h1] at h1'; cases h1'; omega
  | ownNil b blk' h1' he hi =>
    have : ds = [] := List.eq_nil_of_length_eq_zero hdl
    subst this; exact .lnil
  | own b tot off len blk' x n cap a h1' ht' hi hn hl' hcap ha =>
    rw [h1] at h1'; cases h1'
    obtain ⟨hx0, c0, hc, hcs, hsz, hel⟩ := hs.heap b blk x h1 hi
    rcases Nat.eq_zero_or_pos len with h0 | hpos
    · have : ds = [] := List.eq_nil_of_length_eq_zero (by omega)
      subst this
      exact .lst [] a n cap 0 (fun _ _ => undef) (by simp; omega) (by omega) (by have : 0 ≤ maxLen := Nat.zero_le _; omega) (by simp) (by simp) (by simp) (by simp)
    · obtain ⟨rfl, hmx, c1, ty, fz, hc1, hc2⟩ := ha (.inl (by omega))
      rw [hc] at hc1; injection hc1 with hc1; injection hc1 with hc1 _ _; subst hc1
      have hnot : ¬ OO O ι (H.take k) x := not_OO_take hs h1 hk hi
      have hat : ∀ (i j : Nat) (d c : AV), ds[i]? = some d → d.cells[j]? = some c → ∃ u, w.cell? ⟨x, off * blk.sz + i * blk.sz + j, none⟩ = some u ∧ VR w (OO O ι (H.take k)) ι (H.take k) c u := by
        intro i j d c hdi hcj
        have hil : i < len := by rw [← hdl]; exact (List.getElem?_eq_some_iff.1 hdi).1
        have hei : blk.es[off + i]? = some (blk.es[off + i]'(by omega)) := List.getElem?_eq_getElem (by omega)
        obtain ⟨h3, h4⟩ := hd i _ d hil hei hdi
        have hcj' : j < (blk.es[off + i]'(by omega)).cells.length := by rw [h3]; exact (List.getElem?_eq_some_iff.1 hcj).1
        obtain ⟨u, hu, hv⟩ := hel (off + i) j _ _ hei (List.getElem?_eq_getElem hcj')
        refine ⟨u, ?_, h4 j _ c (List.getElem?_eq_getElem hcj') hcj w0 w O ι u hs hv⟩
        rw [← Nat.add_mul]
        simpa [World.cell?, hc] using hu
      have hsize : ∀ d ∈ ds, d.cells.length = blk.sz := by
        intro d hdm
        obtain ⟨i, hi', hdi⟩ := List.mem_iff_getElem.1 hdm
        have hdi' : ds[i]? = some d := by rw [List.getElem?_eq_getElem hi', hdi]
        have hei : blk.es[off + i]? = some (blk.es[off + i]'(by omega)) := List.getElem?_eq_getElem (by omega)
        obtain ⟨h3, _⟩ := hd i _ d (by omega) hei hdi'
        rw [← h3]
        exact hsz _ (List.getElem_mem _)
      exact .lst ds _ n cap blk.sz (fun i j => (w.cell? ⟨x, off * blk.sz + i * blk.sz + j, none⟩).getD undef) (by omega) (by omega) (by omega) hsize (fun _ _ => rfl)
        (fun i j d c hdi hcj => by obtain ⟨u, hu, _⟩ := hat i j d c hdi hcj; exact ⟨hnot, by simp only [hu, Option.getD_some]⟩)
        (fun i j d c hdi hcj => by obtain ⟨u, hu, hv⟩ := hat i j d c hdi hcj; simpa only [hu, Option.getD_some] using hv)
end

section
variable {H : List ABlk} {k : Nat}
theorem Sit.trim {w0 w : World} {O : Nat → Prop} {ι : Nat → Option Nat} (hs : Sit w0 O ι H w) (hc : ∀ blk ∈ H.take k, ∀ e ∈ blk.es, ∀ c ∈ e.cells, Pub H k c c) : Sit w0 O ι (H.take k) w := by
  refine ⟨fun b blk x h1 hi => ?_, fun b blk h1 hi => hs.empt b blk (take_getElem? h1).2 hi, fun b b' x hb hb' => hs.inj b b' x (by simp at hb; omega) (by simp at hb'; omega), hs.below, hs.old⟩
  obtain ⟨h2, c, h3, h4, h5, h6⟩ := hs.heap b blk x (take_getElem? h1).2 hi
  refine ⟨h2, c, h3, h4, h5, fun i j e d he hd => ?_⟩
  obtain ⟨u, hu, hv⟩ := h6 i j e d he hd
  exact ⟨u, hu, hc blk (List.mem_of_getElem? h1) e (List.mem_of_getElem? he) d (List.mem_of_getElem? hd) w0 w O ι u hs hv⟩

theorem Wk.trim {E E2 : Env} (k : Nat) (h : ∀ p ∈ E2, Pub H k (lk E p.1) p.2) (hc : ∀ blk ∈ H.take k, ∀ e ∈ blk.es, ∀ c ∈ e.cells, Pub H k c c) : Wk ⟨E, H⟩ ⟨E2, H.take k⟩ := fun n w0 O ι a w hs =>
  ⟨ι, hs.sit.trim hc, hs.defers, hs.size, fun t => by
    rcases lk_mem E2 t with h1 | ⟨p, hp, h1, h2⟩
    · show VR _ _ _ _ (lk E2 t) _; rw [h1]; exact .bad _
    · show VR _ _ _ _ (lk E2 t) _; rw [h2]; subst h1; exact h p hp w0 w O ι _ hs.sit (hs.vals p.1)⟩

/-- a nil slice is an own slice without elements -/
theorem Wk.nil {E E2 : Env} (ty sz : Nat) (h : ∀ p ∈ E2, Le (lk E p.1) p.2 ∨ (lk E p.1 = .base (.slice none 0 0) ∧ p.2 = .own H.length 0 0 0)) : Wk ⟨E, H⟩ ⟨E2, H ++ [⟨ty, sz, []⟩]⟩ := fun n w0 O ι a w hs => by
  let ι2 : Nat → Option Nat := fun b => if b = H.length then none else ι b
  have hlt : ∀ b blk, H[b]? = some blk → (H ++ [⟨ty, sz, []⟩])[b]? = some blk ∧ ι2 b = ι b := fun b blk hb => by
    have : b < H.length := (List.getElem?_eq_some_iff.1 hb).1
    exact ⟨by rw [List.getElem?_append_left this]; exact hb, if_neg (by omega)⟩
  have hinv : ∀ b x, b < (H ++ [(⟨ty, sz, []⟩ : ABlk)]).length → ι2 b = some x → b < H.length ∧ ι b = some x := fun b x hb hx => by
    simp only [List.length_append, List.length_singleton] at hb
    by_cases e : b = H.length
    · simp [ι2, e] at hx
    · exact ⟨by omega, by simpa [ι2, e] using hx⟩
  have hOO : ∀ x, OO O ι2 (H ++ [⟨ty, sz, []⟩]) x → OO O ι H x := by
    rintro x (h | ⟨b, hb, hx⟩)
    · exact .inl h
    · obtain ⟨h1, h2⟩ := hinv b x hb hx; exact .inr ⟨b, h1, h2⟩
  have g : Goes w (OO O ι H) ι H w (OO O ι2 (H ++ [⟨ty, sz, []⟩])) ι2 (H ++ [⟨ty, sz, []⟩]) :=
    ⟨fun _ _ _ h => h, fun _ _ h _ h' => h (hOO _ h'), fun b blk hb => ⟨blk, (hlt b blk hb).1, Nat.le_refl _, fun _ => ⟨rfl, (hlt b blk hb).2⟩⟩,
     fun b x blk blk' c ty fz _ _ _ _ h => ⟨c, ty, fz, h, rfl⟩⟩
  have hinv2 : ∀ b blk x, (H ++ [(⟨ty, sz, []⟩ : ABlk)])[b]? = some blk → ι2 b = some x → H[b]? = some blk ∧ ι b = some x := fun b blk x hb hx => by
    obtain ⟨h1, h2⟩ := hinv b x (List.getElem?_eq_some_iff.1 hb).1 hx
    rw [List.getElem?_append_left h1] at hb
    exact ⟨hb, h2⟩
  refine ⟨ι2, ⟨fun b blk x hb hx => ?_, fun b blk hb hx => ?_, fun b b' x hb hb' hx hx' => ?_, hs.sit.below, hs.sit.old⟩, hs.defers, hs.size, fun t => ?_⟩
  · obtain ⟨h1, h2⟩ := hinv2 b blk x hb hx
    obtain ⟨h3, h4⟩ := hs.sit.heap b blk x h1 h2
    exact ⟨h3, h4.mono g rfl⟩
  · by_cases e : b < H.length
    · rw [List.getElem?_append_left e] at hb
      exact hs.sit.empt b blk hb (by rw [← (hlt b blk hb).2]; exact hx)
    · rw [List.getElem?_append_right (by omega)] at hb
      cases hd : b - H.length with
      | zero => rw [hd] at hb; simp at hb; subst hb; rfl
      | succ m => rw [hd] at hb; simp at hb
  · obtain ⟨h1, h2⟩ := hinv b x hb hx
    obtain ⟨h3, h4⟩ := hinv b' x hb' hx'
    exact hs.sit.inj b b' x h1 h3 h2 h4
  · rcases lk_mem E2 t with h1 | ⟨p, hp, h1, h2⟩
    · show VR _ _ _ _ (lk E2 t) _; rw [h1]; exact .bad _
    · show VR _ _ _ _ (lk E2 t) _
      rw [h2]; subst h1
      have hv := hs.vals p.1
      rcases h p hp with h | ⟨h3, h4⟩
      · exact h _ _ _ _ _ (hv.mono g)
      · rw [show lk (⟨E, H⟩ : ASt).env p.1 = lk E p.1 from rfl, h3] at hv
        have := hv.base_inv
        rw [h4, this]
        exact .ownNil _ ⟨ty, sz, []⟩ (by simp) rfl (if_pos rfl)
end

/-! ### functions -/
def ldPtr (P : Program) (H : List ABlk) (t : TypeId) : AV → Option AV
  | .ptr b tot i off => match H[b]? with
    | some blk => if blk.es.length = tot then match blk.es[i]? with
      | some e => ldE (aggTy P t) (szTy P t) e off
      | none => none else none
    | none => none
  | _ => none

def resVal (P : Program) (s : ASt) : ResultVar → Option AV
  | .tmp t => some (lk s.env t)
  | .cell a t => ldPtr P s.H t (lk s.env a)

def resVals (P : Program) (s : ASt) : List ResultVar → Option (List AV)
  | [] => some []
  | r :: rs => match resVal P s r, resVals P s rs with
    | some v, some vs => some (v :: vs)
    | _, _ => none

def packA : List AV → AV
  | [v] => v
  | vs => .tup vs

/-- the end of a function: it gives d -/
def Ret (P : Program) (rs : List ResultVar) (d : AV) (s : ASt) : Prop := ∃ vs, resVals P s rs = some vs ∧ Pub s.H 0 (packA vs) d

def retQ (P : Program) (rs : List ResultVar) (d : AV) : Exit → ASt → Prop
  | .normal, s | .ret, s => Ret P rs d s
  | _, _ => False

def resF (tmps : Array Value) : ResultVar → Sem Value
  | .tmp t => pure (tmps.getD t undef)
  | .cell a t => do loadVar t (← asAddr (tmps.getD a undef))

section
variable {P : Program} {w w0 : World} {O : Nat → Prop} {ι : Nat → Option Nat} {n : Nat}

theorem resVal_run {s : ASt} {a : Act} (hs : SR n w0 O s ι a w) {r : ResultVar} {v : AV} (h : resVal P s r = some v) :
    ∃ u, (resF a.tmps r).run P w = .ok u w ∧ VR w (OO O ι s.H) ι s.H v u := by
  cases r with
  | tmp t =>
    simp only [resVal] at h
    injection h with h; subst h
    exact ⟨_, rfl, hs.vals t⟩
  | cell b t =>
    simp only [resVal] at h
    have h1 := hs.vals b
    generalize lk s.env b = A at h h1
    unfold ldPtr at h
    split at h
    · split at h
      · rename_i blk hb
        split at h
        · rename_i ht
          split at h
          · rename_i e he
            obtain ⟨y, hy, h2, h3⟩ := h1.ptr_inv hs.sit hb ht he
            obtain ⟨u, hu, hvu⟩ := ldE_run (P := P) h h3
            exact ⟨u, by simp only [resF, Sem.run_bind, h2, asAddr, Sem.run_pure, Result.andThen_ok, hu], hvu⟩
          · cases h
        · cases h
      · cases h
    · cases h

theorem results_run {s : ASt} {a : Act} (hs : SR n w0 O s ι a w) {fn : Func} {vs : List AV} (h : resVals P s fn.results.toList = some vs) :
    ∃ u, (results fn a.tmps).run P w = .ok u w ∧ VR w (OO O ι s.H) ι s.H (packA vs) u := by
  have key : ∀ (rs : List ResultVar) (vs : List AV), resVals P s rs = some vs → ∃ us : List Value, us.length = vs.length ∧ (∀ (j : Nat) (c : AV) (u : Value), vs[j]? = some c → us[j]? = some u → VR w (OO O ι s.H) ι s.H c u) ∧
      (rs.mapM (resF a.tmps)).run P w = .ok us w := by
    intro rs
    induction rs with
    | nil => intro vs h; simp only [resVals] at h; injection h with h; subst h; exact ⟨[], rfl, by simp, rfl⟩
    | cons r rs ih =>
      intro vs h
      simp only [resVals] at h
      split at h
      · rename_i v vs' hv hvs
        injection h with h; subst h
        obtain ⟨us, h1, h2, h3⟩ := ih vs' hvs
        obtain ⟨u, h4, h5⟩ := resVal_run hs hv
        refine ⟨u :: us, by simp [h1], fun j c u' hc hu => ?_, ?_⟩
        · cases j with
          | zero => simp at hc hu; subst hc; subst hu; exact h5
          | succ j => exact h2 j c u' (by simpa using hc) (by simpa using hu)
        · rw [List.mapM_cons]
          simp only [Sem.run_bind, h3, h4, Result.andThen_ok, Sem.run_pure]
      · cases h
  obtain ⟨us, h1, h2, h3⟩ := key _ vs h
  have hres : results fn a.tmps = (fn.results.mapM (resF a.tmps) >>= fun vs => pure (if h : vs.size = 1 then vs[0] else .tuple vs)) := rfl
  rw [hres, Array.mapM_eq_mapM_toList]
  simp only [bind_map_left, Sem.run_bind, h3, Result.andThen_ok, Sem.run_pure]
  refine ⟨_, rfl, ?_⟩
  match vs, us, h1, h2 with
  | [v], [u], _, h2 => exact h2 0 v u rfl rfl
  | [], [], _, h2 => exact .tup [] #[] rfl (by simp)
  | v :: v2 :: vs, u :: u2 :: us, h1, h2 =>
    rw [dif_neg (by simp)]
    exact .tup _ _ (by simp at h1 ⊢; exact h1) fun j c u hc hu => h2 j c u hc (by simpa using hu)

/-- WHAT A FUNCTION GIVES, from its body. -/
theorem Fn.intro {f : FuncId} {fn : Func} {c : Code} {args : List AV} {d : AV} (hf : P.funcs[f]? = some fn) (hn : (fn.name == "runtime.NumGoroutine") = false) (hb : fn.body = some c) (ha : args.length ≤ fn.ntmps)
    (h : AWp P fn.ntmps c (retQ P fn.results.toList d) ⟨args.zipIdx.map fun (a, i) => (i, a), []⟩) : Fn P f args d := by
  refine ⟨⟨fn, hf, hn, by rw [hb]; rfl⟩, fun w O vs hO hl hv => ?_⟩
  refine calls_of_wp hf hb ?_
  have hlk : ∀ (l : List AV) (k t : Nat), lk ((l.zipIdx k).map fun (a, i) => (i, a)) t = if k ≤ t then (l[t - k]?).getD .bad else .bad := by
    intro l
    induction l with
    | nil => intro k t; simp [lk]
    | cons x l ih =>
      intro k t
      simp only [List.zipIdx_cons, List.map_cons, lk, ih]
      split
      · rename_i e; subst e; simp
      · rename_i e
        by_cases hlt : k ≤ t
        · rw [if_pos (by omega), if_pos hlt, show t - k = (t - (k + 1)) + 1 by omega]; rfl
        · rw [if_neg (by omega), if_neg hlt]
  have hs : SR fn.ntmps w O ⟨args.zipIdx.map fun (a, i) => (i, a), []⟩ noB { tmps := vs ++ Array.replicate (fn.ntmps - vs.size) undef, defers := [] } w := by
    refine ⟨⟨fun b blk x h => by simp at h, fun b blk h => by simp at h, fun b b' x h => by simp at h, Below.refl _ _, hO⟩, rfl, by simp; omega, fun t => ?_⟩
    show VR _ _ _ _ (lk (args.zipIdx.map fun (a, i) => (i, a)) t) _
    rw [hlk args 0 t]
    simp only [Nat.zero_le, if_true, Nat.sub_zero]
    cases ht : args[t]? with
    | none => exact .bad _
    | some x =>
      have htl : t < args.length := (List.getElem?_eq_some_iff.1 ht).1
      have hu : vs[t]? = some vs[t] := Array.getElem?_eq_getElem (by omega)
      have h1 := hv t x _ ht hu
      rw [Array.getD_eq_getD_getElem?, Array.getElem?_append_left (by omega), hu]
      refine h1.lessO fun y hy => ?_
      rcases hy with hy | ⟨b, hb, _⟩
      · exact hy
      · simp at hb
  refine wp_mono (h w O noB _ w hs) ?_
  have fin : ∀ (s' : ASt) (ι' : Nat → Option Nat) (a : Act) (w' : World), Ret P fn.results.toList d s' → SR fn.ntmps w O s' ι' a w' →
      a.defers = [] ∧ ∃ v, (results fn a.tmps).run P w' = .ok v w' ∧ ∃ v', Ending.returned v = .returned v' ∧ VR w' O noB [] d v' ∧ Below w.heap.size w w' := by
    rintro s' ι' a w' ⟨rs, h1, h2⟩ hs'
    obtain ⟨u, h3, h4⟩ := results_run hs' h1
    refine ⟨hs'.defers, u, h3, u, rfl, ?_, hs'.sit.below⟩
    have h5 := h2 w w' O ι' u hs'.sit h4
    have h6 : VR w' O ι' [] d u := h5.lessO fun x hx => .inl hx
    exact h6.mono ⟨fun _ _ _ h => h, fun _ _ h _ => h, fun b blk h => by simp at h, fun b x blk blk' c ty fz h => by simp at h⟩
  rintro e a w' ⟨s', ι', h1, h2⟩
  cases e with
  | normal => exact fin s' ι' a w' h1 h2
  | ret => exact fin s' ι' a w' h1 h2
  | _ => exact h1.elim
end
end Go.Ab
