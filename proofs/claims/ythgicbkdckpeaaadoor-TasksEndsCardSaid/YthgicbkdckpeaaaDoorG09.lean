/- append and make. -/
import Derived.Test.YthgicbkdckpeaaaDoorG08
set_option linter.unusedSimpArgs false
set_option linter.unusedVariables false
namespace Go.Ab
open Go Go.RowKit

def elI (P : Program) (e : TypeId) (size bytes : Nat) : Bool :=
  match P.info? e with
  | some i => match i.zero with
    | some z => i.size == size && i.bytes == bytes && z.cells.size == size && Nat.blt 0 size && Nat.blt e mapTy
    | none => false
  | none => false

theorem elI_inv {P : Program} {e : TypeId} {size bytes : Nat} (h : elI P e size bytes = true) : ∃ i z, P.info? e = some i ∧ i.zero = some z ∧ i.size = size ∧ i.bytes = bytes ∧ z.cells.size = size ∧ 0 < size ∧ e < mapTy := by
  unfold elI at h
  split at h
  · rename_i i hi
    split at h
    · rename_i z hz
      simp only [Bool.and_eq_true, beq_iff_eq, Nat.blt_eq] at h
      exact ⟨i, z, hi, hz, h.1.1.1.1, h.1.1.1.2, h.1.1.2, h.1.2, h.2⟩
    · cases h
  · cases h

section
variable {P : Program} {w w' : World} {w0 : Base} {O : Nat → Prop} {ι : Nat → Option Nat} {H : List ABlk} {u : Value}

theorem append_core {t ty el : TypeId} {size bytes : Nat} (ht : P.underlying t = some (.slice el)) (hel : elI P el size bytes = true) {base : Nat} {v : Value} {n : Nat} {xs : List Value} (hown : w.ownsRow base el size v n xs) (hbase : base ≤ w.heap.size)
    {es : List AV} {X : Value} (hX : VR w O ι H (.lst es) X) (hm : 1 ≤ es.length) (hes : ∀ e ∈ es, e.cells.length = size ∧ okCells e = true) (hb : (n + es.length) * bytes ≤ 140737488355328) (h63 : n + es.length ≤ maxLen) :
    ∃ v' w' news, (Builtin.append_ #[t, t] ty #[v, X]).run P w = .ok v' w' ∧ w'.ownsRow base el size v' (n + es.length) (xs ++ news) ∧ w.grownBy w' v.ownBlock ∧ (v'.ownBlock = v.ownBlock ∨ v'.ownBlock = some w.heap.size) ∧ news.length = es.length * size ∧ v' ≠ .slice none 0 0 ∧
      ∀ (i j : Nat) (e d : AV), es[i]? = some e → e.cells[j]? = some d → ∃ u, news[i * size + j]? = some u ∧ VR w O ι H d u := by
  obtain ⟨i0, z, h1, h2, h3, h4, h5, h6, _⟩ := elI_inv hel
  cases hX with
  | lnil => simp at hm
  | lst es a m cap s val hn hcap hmax hlen hspot hc hv =>
    subst hn
    have h0 : ∃ e, e ∈ es := ⟨es[0], List.getElem_mem _⟩
    obtain ⟨e0, he0⟩ := h0
    have hs : s = size := by rw [← hlen e0 he0]; exact (hes e0 he0).1
    subst hs
    have hsp := hspot e0 he0
    have hat : ∀ q, q < es.length * s → ∃ (e d : AV), es[q / s]? = some e ∧ e.cells[q % s]? = some d := by
      intro q hq
      have hq1 : q / s < es.length := (Nat.div_lt_iff_lt_mul h6).2 hq
      have hq2 : q % s < s := Nat.mod_lt _ h6
      refine ⟨es[q / s], _, List.getElem?_eq_getElem hq1, List.getElem?_eq_getElem (by rw [hlen _ (List.getElem_mem _)]; exact hq2)⟩
    have hnews : ∀ j u, ((List.range (es.length * s)).map fun q => val (q / s) (q % s))[j]? = some u → w.cell? (a.add j) = some u := by
      intro j u hj
      rw [List.getElem?_map] at hj
      have hjl : j < es.length * s := by
        rcases Nat.lt_or_ge j (es.length * s) with h | h
        · exact h
        · rw [List.getElem?_eq_none (by simpa using h)] at hj; simp at hj
      rw [List.getElem?_range hjl] at hj
      simp at hj; subst hj
      obtain ⟨e, d, he, hd⟩ := hat j hjl
      have := (hc _ _ _ _ he hd).2
      rw [add_eq _ _ hsp]
      rwa [Nat.add_assoc, show j / s * s + j % s = j by rw [Nat.mul_comm]; exact Nat.div_add_mod j s] at this
    have hone : ∀ u ∈ (List.range (es.length * s)).map fun q => val (q / s) (q % s), u.oneCell' = true := by
      intro u hu
      obtain ⟨q, hq, rfl⟩ := List.mem_map.1 hu
      obtain ⟨e, d, he, hd⟩ := hat q (by simpa using hq)
      have hok := (hes e (List.mem_of_getElem? he)).2
      have hd1 : isOne d = true := by
        cases e with
        | agg cs => exact List.all_eq_true.1 hok d (List.mem_of_getElem? hd)
        | _ =>
          cases hq' : q % s with
          | zero => rw [hq'] at hd; simp only [AV.cells, List.getElem?_cons_zero, Option.some.injEq] at hd; subst hd; simpa [okCells] using hok
          | succ k => rw [hq'] at hd; simp [AV.cells] at hd
      exact (VR.one hd1 (hv _ _ _ _ he hd)).1
    obtain ⟨v', w', hr, k1, k2, k3, k4⟩ := run_append_own_at (P := P) w base t ty el i0 z s bytes ht h1 h2 h3 h4 h5 h6 v n xs hown a es.length cap _ (by simp) hnews hone h63 hb hbase
    refine ⟨v', w', _, hr, k1, k2, k4, by simp, fun e => by have := (k3.1 e).2; omega, fun i j e d he hd => ?_⟩
    have hi : i < es.length := (List.getElem?_eq_some_iff.1 he).1
    have hj : j < s := by rw [← hlen e (List.mem_of_getElem? he)]; exact (List.getElem?_eq_some_iff.1 hd).1
    refine ⟨val i j, ?_, hv _ _ _ _ he hd⟩
    have hq : i * s + j < es.length * s := mul_lt_of hi hj
    rw [List.getElem?_map, List.getElem?_range hq]
    obtain ⟨e1, e2⟩ := div_of (i := i) hj
    simp [e1, e2]

theorem own_row (hs : Sit w0 O ι H w) {b tot : Nat} {blk : ABlk} {v : Value} (hb : H[b]? = some blk) (ht : blk.es.length = tot) (hv : VR w (OO O ι H) ι H (.own b tot 0 tot) v) (hsz : 0 < blk.sz) (hmt : blk.ty < mapTy) :
    ∃ xs, w.ownsRow 0 blk.ty blk.sz v tot xs ∧ v.ownBlock = ι b ∧
      (∀ (i j : Nat) (e d : AV), blk.es[i]? = some e → e.cells[j]? = some d → ∃ u, xs[i * blk.sz + j]? = some u ∧ VR w (OO O ι H) ι H d u) ∧ (v = .slice none 0 0 ∨ ∃ x cap, v = .slice (some ⟨x, 0, none⟩) tot cap) := by
  cases hv with
  | staleOwn b tot off len blk' a n c hb' hlt => rw [hb] at hb'; cases hb'; omega
  | ownNil b blk' hb' he hi =>
    rw [hb] at hb'; cases hb'
    exact ⟨[], ⟨by simp, .inl ⟨rfl, rfl⟩⟩, by rw [hi]; rfl, fun i j e d h => by rw [he] at h; simp at h, .inl rfl⟩
  | own b tot off len blk' x n cap a hb' ht' hi hn hl hcap ha =>
    rw [hb] at hb'; cases hb'
    obtain ⟨rfl, hmx, c, ty, fz, hc, hc2⟩ := ha (.inr rfl)
    obtain ⟨hx0, c0, hc0, hcl, hsz', hrow⟩ := hs.heap b blk x hb hi
    have hc0 := rowAt_inv hc0 ⟨c, ty, fz, hc⟩ hmt
    rw [hc] at hc0; injection hc0 with hc0; injection hc0 with h1 h2 h3; subst h1; subst h2; subst h3
    rw [Nat.zero_add] at hc2
    rw [Nat.zero_mul]
    subst hn
    refine ⟨c.toList.take (n * blk.sz), ⟨?_, .inr ⟨x, cap, c, rfl, Nat.zero_le _, hc, hcap, hmx, hc2.symm, rfl⟩⟩, by rw [hi]; rfl, fun i j e d he hd => ?_, .inr ⟨x, cap, rfl⟩⟩
    · simp only [List.length_take, Array.length_toList]
      have : n * blk.sz ≤ cap * blk.sz := Nat.mul_le_mul_right _ hcap
      omega
    · obtain ⟨u, hu, hvu⟩ := hrow i j e d he hd
      refine ⟨u, ?_, hvu⟩
      have hi' : i < n := by rw [← ht']; exact (List.getElem?_eq_some_iff.1 he).1
      have hj' : j < blk.sz := by rw [← hsz' e (List.mem_of_getElem? he)]; exact (List.getElem?_eq_some_iff.1 hd).1
      rw [List.getElem?_take, if_pos (mul_lt_of hi' hj'), Array.getElem?_toList]; exact hu

theorem Sit.grow (hs : Sit w0 O ι H w) {b tot m : Nat} {blk : ABlk} {es : List AV} (hb : H[b]? = some blk) (ht : blk.es.length = tot) (hmt : blk.ty < mapTy) (hm : 1 ≤ es.length) (hes : ∀ e ∈ es, e.cells.length = blk.sz) {v v' : Value} (hvb : v.ownBlock = ι b)
    {xs news : List Value} (hxl : xs.length = tot * blk.sz) (hxs : ∀ (i j : Nat) (e d : AV), blk.es[i]? = some e → e.cells[j]? = some d → ∃ u, xs[i * blk.sz + j]? = some u ∧ VR w (OO O ι H) ι H d u)
    (hnews : ∀ (i j : Nat) (e d : AV), es[i]? = some e → e.cells[j]? = some d → ∃ u, news[i * blk.sz + j]? = some u ∧ VR w (OO O ι H) ι H d u)
    (hold : ∀ e ∈ blk.es, e.cells.length = blk.sz)
    (hown : w'.ownsRow 0 blk.ty blk.sz v' (tot + es.length) (xs ++ news)) (hg : w.grownBy w' v.ownBlock) (hat : v'.ownBlock = v.ownBlock ∨ v'.ownBlock = some w.heap.size) :
    ∃ ι', Sit w0 O ι' (H.set b { blk with es := blk.es ++ es }) w' ∧ Goes w (OO O ι H) ι H w' (OO O ι' (H.set b { blk with es := blk.es ++ es })) ι' (H.set b { blk with es := blk.es ++ es }) ∧
      VR w' (OO O ι' (H.set b { blk with es := blk.es ++ es })) ι' (H.set b { blk with es := blk.es ++ es }) (.own b (tot + es.length) 0 (tot + es.length)) v' := by
  have hbl : b < H.length := (List.getElem?_eq_some_iff.1 hb).1
  obtain ⟨hlen, hcase⟩ := hown
  rcases hcase with ⟨_, h0⟩ | ⟨g, cap, cur, rfl, hg0, hgh, hncap, hcapm, hcur, htake⟩
  · omega
  have hvg : (Value.slice (some ⟨g, 0, none⟩) (tot + es.length) cap).ownBlock = some g := rfl
  rw [hvg] at hat
  -- where the block lies now
  have hgw : g = w.heap.size ∨ ι b = some g := by
    rcases hat with h | h
    · exact .inr (by rw [← hvb]; exact h.symm)
    · injection h with h; exact .inl h
  have hrng : ∀ b' x, b' < H.length → ι b' = some x → x < w.heap.size := fun b' x hb' hx => (hs.heap b' _ x (List.getElem?_eq_getElem hb') hx).2.lt
  obtain ⟨H2, hH2⟩ : ∃ H2, H2 = H.set b { blk with es := blk.es ++ es } := ⟨_, rfl⟩
  rw [← hH2]
  have hget : ∀ b' bk, H2[b']? = some bk → (b' = b ∧ bk = { blk with es := blk.es ++ es }) ∨ (b' ≠ b ∧ H[b']? = some bk) := by
    intro b' bk h
    rw [hH2, List.getElem?_set] at h
    by_cases e : b = b'
    · subst e; rw [if_pos rfl, if_pos hbl] at h; injection h with h; exact .inl ⟨rfl, h.symm⟩
    · rw [if_neg e] at h; exact .inr ⟨fun e' => e e'.symm, h⟩
  have hlen2 : H2.length = H.length := by rw [hH2]; simp
  have hunch : ∀ k, k < w.heap.size → ι b ≠ some k → w'.heap[k]? = w.heap[k]? := fun k hk hne => hg.block k hk (by rw [hvb]; exact fun e => hne e.symm)
  have hOO : ∀ y, OO O (upd ι b g) H2 y → OO O ι H y ∨ y = w.heap.size := by
    rintro y (h | ⟨b', hb', hx⟩)
    · exact .inl (.inl h)
    · rw [hlen2] at hb'
      by_cases e : b' = b
      · subst e; rw [upd_same] at hx; injection hx with hx; subst hx
        rcases hgw with h | h
        · exact .inr h
        · exact .inl (.inr ⟨b', hb', h⟩)
      · rw [upd_other e] at hx; exact .inl (.inr ⟨b', hb', hx⟩)
  have gs : Goes w (OO O ι H) ι H w' (OO O (upd ι b g) H2) (upd ι b g) H2 := by
    refine ⟨fun p u h hcell => ?_, fun p u h hcell h' => ?_, fun b' bk h => ?_, fun b' y bk bk' c1 ty fz h1 h2 h3 hi' h => ?_⟩
    · rw [hunch p (heap_lt hcell) fun e => h (.inr ⟨b, hbl, e⟩)]; exact hcell
    · rcases hOO _ h' with h' | h'
      · exact h h'
      · have := heap_lt hcell; omega
    · by_cases e : b' = b
      · subst e
        rw [hb] at h; injection h with h; subst h
        exact ⟨{ blk with es := blk.es ++ es }, by rw [hH2]; simp [hbl], by simp, fun he => by simp at he; subst he; simp at hm⟩
      · exact ⟨bk, by rw [hH2, List.getElem?_set_ne (fun e' => e e'.symm)]; exact h, Nat.le_refl _, fun _ => ⟨rfl, upd_other e⟩⟩
    · rcases hget b' bk' h2 with ⟨rfl, rfl⟩ | ⟨hne, h2'⟩
      · rw [hb] at h1; injection h1 with h1; subst h1
        simp at h3; subst h3; simp at hm
      · have hlt := hrng b' y (List.getElem?_eq_some_iff.1 h2').1 hi'
        exact ⟨c1, ty, fz, by rw [hunch y hlt fun e => hne (hs.inj b' b y (List.getElem?_eq_some_iff.1 h2').1 hbl hi' e)]; exact h, rfl⟩
  refine ⟨upd ι b g, ⟨fun b' bk y h hy => ?_, fun b' bk h hy => ?_, fun b1 b2 y h1 h2 hy1 hy2 => ?_, ?_, fun y hy => Nat.lt_of_lt_of_le (hs.old y hy) hg.size, fun y b1 hO h1 hy => ?_, hs.hist.trans gs.grow⟩, gs, ?_⟩
  · rcases hget b' bk h with ⟨rfl, rfl⟩ | ⟨hne, h'⟩
    · rw [upd_same] at hy; injection hy with hy; subst hy
      refine ⟨hgw.elim (fun h => .inl (by rw [h]; exact hs.below.size)) fun h => (hs.heap _ blk g hb h).1, cur, rowAt_cells hgh hmt, ?_, fun e he => ?_, fun i j e d he hd => ?_⟩
      · simp only [List.length_append]
        rw [hcur, ht]
        exact Nat.mul_le_mul_right _ hncap
      · rcases List.mem_append.1 he with h | h
        · exact hold e h
        · exact hes e h
      · simp only at he ⊢
        have hj : j < blk.sz := by
          rcases List.mem_append.1 (List.mem_of_getElem? he) with h | h
          · rw [← hold e h]; exact (List.getElem?_eq_some_iff.1 hd).1
          · rw [← hes e h]; exact (List.getElem?_eq_some_iff.1 hd).1
        have hil : i < tot + es.length := by have := (List.getElem?_eq_some_iff.1 he).1; simp at this; omega
        have hc : cur[i * blk.sz + j]? = (xs ++ news)[i * blk.sz + j]? := by
          rw [← htake, List.getElem?_take, if_pos (mul_lt_of hil hj), Array.getElem?_toList]
        rw [hc, List.getElem?_append]
        by_cases hi : i < tot
        · rw [List.getElem?_append_left (by omega)] at he
          obtain ⟨u, hu, hvu⟩ := hxs i j e d he hd
          exact ⟨u, by rw [if_pos (by rw [hxl]; exact mul_lt_of hi hj)]; exact hu, hvu.mono gs⟩
        · rw [List.getElem?_append_right (by omega), ht] at he
          obtain ⟨u, hu, hvu⟩ := hnews (i - tot) j e d he hd
          have hge : tot * blk.sz ≤ i * blk.sz := Nat.mul_le_mul_right _ (by omega)
          refine ⟨u, ?_, hvu.mono gs⟩
          rw [if_neg (by rw [hxl]; omega), hxl, show i * blk.sz + j - tot * blk.sz = (i - tot) * blk.sz + j by rw [Nat.sub_mul]; omega]
          exact hu
    · rw [upd_other hne] at hy
      obtain ⟨h3, h4⟩ := hs.heap b' bk y h' hy
      exact ⟨h3, h4.mono gs (hunch y h4.lt fun e => hne (hs.inj b' b y (List.getElem?_eq_some_iff.1 h').1 hbl hy e))⟩
  · rcases hget b' bk h with ⟨rfl, rfl⟩ | ⟨hne, h'⟩
    · rw [upd_same] at hy; cases hy
    · rw [upd_other hne] at hy; exact hs.empt b' bk h' hy
  · rw [hlen2] at h1 h2
    by_cases e1 : b1 = b
    · by_cases e2 : b2 = b
      · rw [e1, e2]
      · subst e1
        rw [upd_same] at hy1; injection hy1 with hy1; subst hy1
        rw [upd_other e2] at hy2
        rcases hgw with h | h
        · have := hrng b2 _ h2 hy2; omega
        · exact hs.inj b1 b2 g h1 h2 h hy2
    · rw [upd_other e1] at hy1
      by_cases e2 : b2 = b
      · subst e2
        rw [upd_same] at hy2; injection hy2 with hy2; subst hy2
        rcases hgw with h | h
        · have := hrng b1 _ h1 hy1; omega
        · exact hs.inj b1 b2 g h1 h2 hy1 h
      · rw [upd_other e2] at hy2; exact hs.inj b1 b2 y h1 h2 hy1 hy2
  · refine hs.below.change hg.os hg.tape hg.output hg.size fun k hk hne => ?_
    by_cases e : ι b = some k
    · exact (hs.heap b blk k hb e).1
    · exact absurd (hunch k hk e) hne
  · rw [hlen2] at h1
    by_cases e : b1 = b
    · subst e
      rw [upd_same] at hy; injection hy with hy; subst hy
      rcases hgw with h | h
      · have := hs.old _ hO; omega
      · exact hs.disj _ _ hO h1 h
    · rw [upd_other e] at hy; exact hs.disj y b1 hO h1 hy
  · refine .own b _ 0 _ { blk with es := blk.es ++ es } g _ cap _ (by rw [hH2]; simp [hbl]) (by simp [ht]) (upd_same _ _ _) rfl (by omega) hncap fun _ => ⟨by rw [Nat.zero_mul], hcapm, cur, blk.ty, (0, 0), hgh, by rw [Nat.zero_add]; exact hcur.symm⟩

theorem append_exec {ρ : Operand → AV} {a : Act} {o : Oper} {s x : Operand} {t : TypeId} {v' : Value} (ho : o.op = .call { callee := .builtin .append, args := #[s, x], argTypes := #[t, t] })
    (hr : (Builtin.append_ #[t, t] o.type #[a.eval s, a.eval x]).run P w = .ok v' w') : (execOp a.eval o).run P w = .ok (.value v') w' := by
  simp only [execOp, ho, resolve, invoke, builtin, Sem.run_bind, Sem.run_pure, Result.andThen_ok, List.map_toArray, List.map_cons, List.map_nil, hr]

theorem pl_append {ρ : Operand → AV} {s x : Operand} {t el : TypeId} {b tot size bytes : Nat} {blk : ABlk} {es : List AV} (hsv : ρ s = .own b tot 0 tot) (hx : ρ x = .lst es) (hb : H[b]? = some blk) (htot : blk.es.length = tot)
    (ht : P.underlying t = some (.slice el)) (hel : elI P el size bytes = true) (hty : blk.ty = el) (hbs : blk.sz = size) (hm : 1 ≤ es.length) (hes : ∀ e ∈ es, e.cells.length = size ∧ okCells e = true) (hbd : (tot + es.length) * bytes ≤ 140737488355328) (h63 : tot + es.length ≤ 140737488355328) :
    PL P H ρ (.call { callee := .builtin .append, args := #[s, x], argTypes := #[t, t] }) (.own b (tot + es.length) 0 (tot + es.length)) (H.set b { blk with es := blk.es ++ es }) := by
  refine PL.of_run fun w0 O ι a w hs hv o ho => ?_
  subst hty; subst hbs
  have h1 := hv s; rw [hsv] at h1
  have h2 := hv x; rw [hx] at h2
  obtain ⟨hpos, hmt⟩ : 0 < blk.sz ∧ blk.ty < mapTy := by obtain ⟨_, _, _, _, _, _, _, h⟩ := elI_inv hel; exact h
  obtain ⟨xs, k1, k2, k3, _⟩ := own_row hs hb htot h1 hpos hmt
  obtain ⟨v', w', news, r1, r2, r3, r4, r5, r6, r7⟩ := append_core (P := P) (ty := o.type) ht hel k1 (Nat.zero_le _) h2 hm hes hbd (by simp only [maxLen]; omega)
  have hold : ∀ e ∈ blk.es, e.cells.length = blk.sz := by
    intro e he
    cases hi : ι b with
    | none => rw [hs.empt b blk hb hi] at he; simp at he
    | some y => obtain ⟨_, _, _, _, h, _⟩ := hs.heap b blk y hb hi; exact h e he
  obtain ⟨ι', g1, g2, g3⟩ := hs.grow (m := 0) hb htot hmt hm (fun e he => (hes e he).1) k2 k1.1 k3 r7 hold r2 r3 r4
  exact ⟨v', w', ι', _, append_exec (ρ := ρ) ho r1, .inl rfl, g1, g2, g3⟩
end
end Go.Ab
namespace Go.Ab
open Go Go.RowKit

section
variable {P : Program} {w w' : World} {w0 : Base} {O : Nat → Prop} {ι : Nat → Option Nat} {H : List ABlk} {u : Value}

theorem Goes.trans {w1 w2 w3 : World} {O1 O2 O3 : Nat → Prop} {ι1 ι2 ι3 : Nat → Option Nat} {H1 H2 H3 : List ABlk} (g : Goes w1 O1 ι1 H1 w2 O2 ι2 H2) (k : Goes w2 O2 ι2 H2 w3 O3 ι3 H3) : Goes w1 O1 ι1 H1 w3 O3 ι3 H3 := by
  refine ⟨fun p u h hc => k.obj p u (g.outo p u h hc) (g.obj p u h hc), fun p u h hc => k.outo p u (g.outo p u h hc) (g.obj p u h hc), fun b blk h => ?_, fun b x blk blk3 c ty fz h1 h3 hl hi h => ?_⟩
  · obtain ⟨b2, h2, l2, e2⟩ := g.blk b blk h
    obtain ⟨b3, h3, l3, e3⟩ := k.blk b b2 h2
    refine ⟨b3, h3, Nat.le_trans l2 l3, fun e => ?_⟩
    obtain ⟨a1, a2⟩ := e2 (by omega)
    obtain ⟨a3, a4⟩ := e3 (by omega)
    exact ⟨a3.trans a1, a4.trans a2⟩
  · obtain ⟨b2, h2, l2, e2⟩ := g.blk b blk h1
    obtain ⟨b3, h3', l3, e3⟩ := k.blk b b2 h2
    rw [h3] at h3'; injection h3' with h3'; subst h3'
    obtain ⟨a1, a2⟩ := e2 (by omega)
    obtain ⟨c2, t2, f2, k1, k2⟩ := g.size b x blk b2 c ty fz h1 h2 (by omega) hi h
    obtain ⟨c3, t3, f3, k3, k4⟩ := k.size b x b2 blk3 c2 t2 f2 h2 h3 (by omega) (a2.trans hi) k1
    exact ⟨c3, t3, f3, k3, k4.trans k2⟩

theorem Sit.nil (hs : Sit w0 O ι H w) (ty sz : Nat) : ∃ ι2, Sit w0 O ι2 (H ++ [⟨ty, sz, []⟩]) w ∧ Goes w (OO O ι H) ι H w (OO O ι2 (H ++ [⟨ty, sz, []⟩])) ι2 (H ++ [⟨ty, sz, []⟩]) ∧ ι2 H.length = none := by
  let ι2 : Nat → Option Nat := fun b => if b = H.length then none else ι b
  have hlt : ∀ b blk, H[b]? = some blk → (H ++ [⟨ty, sz, []⟩])[b]? = some blk ∧ ι2 b = ι b := fun b blk hb => by
    have : b < H.length := (List.getElem?_eq_some_iff.1 hb).1
    exact ⟨by rw [List.getElem?_append_left this]; exact hb, if_neg (by omega)⟩
  have hinv : ∀ b x, b < (H ++ [(⟨ty, sz, []⟩ : ABlk)]).length → ι2 b = some x → b < H.length ∧ ι b = some x := fun b x hb hx => by
    simp only [List.length_append, List.length_singleton] at hb
    by_cases e : b = H.length
    · simp [ι2, e] at hx
    · exact ⟨by omega, by simpa [ι2, e] using hx⟩
  have hOO : ∀ x, OO O ι2 (H ++ [⟨ty, sz, []⟩]) x → OO O ι H x := by
    rintro x (h | ⟨b, hb, hx⟩)
    · exact .inl h
    · obtain ⟨h1, h2⟩ := hinv b x hb hx; exact .inr ⟨b, h1, h2⟩
  have g : Goes w (OO O ι H) ι H w (OO O ι2 (H ++ [⟨ty, sz, []⟩])) ι2 (H ++ [⟨ty, sz, []⟩]) :=
    ⟨fun _ _ _ h => h, fun _ _ h _ h' => h (hOO _ h'), fun b blk hb => ⟨blk, (hlt b blk hb).1, Nat.le_refl _, fun _ => ⟨rfl, (hlt b blk hb).2⟩⟩,
     fun b x blk blk' c ty fz _ _ _ _ h => ⟨c, ty, fz, h, rfl⟩⟩
  have hinv2 : ∀ b blk x, (H ++ [(⟨ty, sz, []⟩ : ABlk)])[b]? = some blk → ι2 b = some x → H[b]? = some blk ∧ ι b = some x := fun b blk x hb hx => by
    obtain ⟨h1, h2⟩ := hinv b x (List.getElem?_eq_some_iff.1 hb).1 hx
    rw [List.getElem?_append_left h1] at hb
    exact ⟨hb, h2⟩
  refine ⟨ι2, ⟨fun b blk x hb hx => ?_, fun b blk hb hx => ?_, fun b b' x hb hb' hx hx' => ?_, hs.below, hs.old, fun x b hO hb hx => ?_, hs.hist.trans g.grow⟩, g, if_pos rfl⟩
  · obtain ⟨h1, h2⟩ := hinv2 b blk x hb hx
    obtain ⟨h3, h4⟩ := hs.heap b blk x h1 h2
    exact ⟨h3, h4.mono g rfl⟩
  · by_cases e : b < H.length
    · rw [List.getElem?_append_left e] at hb
      exact hs.empt b blk hb (by rw [← (hlt b blk hb).2]; exact hx)
    · rw [List.getElem?_append_right (by omega)] at hb
      cases hd : b - H.length with
      | zero => rw [hd] at hb; simp at hb; subst hb; rfl
      | succ m => rw [hd] at hb; simp at hb
  · obtain ⟨h1, h2⟩ := hinv b x hb hx
    obtain ⟨h3, h4⟩ := hinv b' x hb' hx'
    exact hs.inj b b' x h1 h3 h2 h4
  · obtain ⟨h1, h2⟩ := hinv b x hb hx
    exact hs.disj x b hO h1 h2

theorem append_none_run {t ty el : TypeId} {size bytes : Nat} (ht : P.underlying t = some (.slice el)) (hel : elI P el size bytes = true) {X : Value} (hX : VR w O ι H (.lst []) X) :
    (Builtin.append_ #[t, t] ty #[.slice none 0 0, X]).run P w = .ok (.slice none 0 0) w := by
  obtain ⟨i0, z, h1, h2, h3, h4, h5, h6, _⟩ := elI_inv hel
  cases hX with
  | lnil => simp [Builtin.append_, run_underlying ht, sizeOf, typeInfo, h1, Builtin.lenOf, Builtin.firstCells]
  | lst es a n cap s val hn hcap hmax hlen hspot hc hv =>
    simp at hn; subst hn
    simp [Builtin.append_, run_underlying ht, sizeOf, typeInfo, h1, Builtin.lenOf, Builtin.firstCells, loadCells, loadCellsFrom]

theorem pl_append_nil {ρ : Operand → AV} {s x : Operand} {t el : TypeId} {size bytes : Nat} {es : List AV} (hsv : ρ s = .base (.slice none 0 0)) (hx : ρ x = .lst es)
    (ht : P.underlying t = some (.slice el)) (hel : elI P el size bytes = true) (hes : ∀ e ∈ es, e.cells.length = size ∧ okCells e = true) (hbd : es.length * bytes ≤ 140737488355328) (h63 : es.length ≤ 140737488355328) :
    PL P H ρ (.call { callee := .builtin .append, args := #[s, x], argTypes := #[t, t] }) (.own H.length es.length 0 es.length) (H ++ [⟨el, size, es⟩]) := by
  refine PL.of_run fun w0 O ι a w hs hv o ho => ?_
  have h1 := hv s; rw [hsv] at h1
  have h1 := h1.base_inv
  have h2 := hv x; rw [hx] at h2
  obtain ⟨ι2, s2, g2, hn⟩ := hs.nil el size
  obtain ⟨hpos, hmt⟩ : 0 < size ∧ el < mapTy := by obtain ⟨_, _, _, _, _, _, _, h⟩ := elI_inv hel; exact h
  have hgetH : (H ++ [(⟨el, size, []⟩ : ABlk)])[H.length]? = some ⟨el, size, []⟩ := by simp
  rcases Nat.eq_zero_or_pos es.length with h0 | hm
  · have : es = [] := List.eq_nil_of_length_eq_zero h0
    subst this
    have hr := append_none_run (P := P) (ty := o.type) ht hel h2
    rw [← h1] at hr
    exact ⟨.slice none 0 0, w, ι2, _, by rw [append_exec (ρ := ρ) ho hr, h1], .inl rfl, s2, g2, .ownNil _ ⟨el, size, []⟩ hgetH rfl hn⟩
  · have hvn : VR w (OO O ι2 (H ++ [⟨el, size, []⟩])) ι2 (H ++ [⟨el, size, []⟩]) (.own H.length 0 0 0) (.slice none 0 0) := .ownNil _ ⟨el, size, []⟩ hgetH rfl hn
    obtain ⟨xs, k1, k2, k3, _⟩ := own_row s2 hgetH rfl hvn hpos hmt
    obtain ⟨v', w', news, r1, r2, r3, r4, r5, r6, r7⟩ := append_core (P := P) (ty := o.type) ht hel k1 (Nat.zero_le _) (h2.mono g2) hm hes (by show (0 + es.length) * bytes ≤ _; rw [Nat.zero_add]; exact hbd) (by show 0 + es.length ≤ _; simp only [maxLen]; omega)
    obtain ⟨ι', g3, g4, g5⟩ := s2.grow (m := 0) hgetH rfl hmt hm (fun e he => (hes e he).1) k2 k1.1 k3 r7 (by simp) r2 r3 r4
    have hset : (H ++ [(⟨el, size, []⟩ : ABlk)]).set H.length { (⟨el, size, []⟩ : ABlk) with es := [] ++ es } = H ++ [⟨el, size, es⟩] := by simp
    simp only at hset
    rw [hset] at g3 g4 g5
    replace g5 : VR w' _ ι' _ (.own H.length (0 + es.length) 0 (0 + es.length)) v' := g5
    rw [Nat.zero_add] at g5
    rw [← h1] at r1
    exact ⟨v', w', ι', _, append_exec (ρ := ρ) ho r1, .inl rfl, g3, g2.trans g4, g5⟩

theorem pl_make {ρ : Operand → AV} {t el : TypeId} {l c : Operand} {k k' : IntKind} {n m : Int} {z : AV} {size bytes : Nat} (hl : ρ l = .base (.int k n)) (hc : ρ c = .base (.int k' m)) (ht : P.underlying t = some (.slice el)) (hel : elI P el size bytes = true)
    (hz : zeroA P el = some z) (hzc : okCells z = true) (h0 : 0 ≤ n) (hnm : n ≤ m) (hbd : m * bytes ≤ 140737488355328) (hm : m ≤ 140737488355328) :
    PL P H ρ (.makeSlice t l c) (.own H.length n.toNat 0 n.toNat) (H ++ [⟨el, size, List.replicate n.toNat z⟩]) := by
  refine PL.of_run fun w0 O ι a w hs hv o ho => ?_
  have h1 := hv l; rw [hl] at h1
  have h1 := h1.base_inv
  have h2 := hv c; rw [hc] at h2
  have h2 := h2.base_inv
  obtain ⟨i0, zv', k1, k2, k3, k4, k5, k6, hmt⟩ := elI_inv hel
  obtain ⟨zv, hzr, rfl⟩ := zero_run (w := w) hz
  have hzz : zv = zv' := by
    have : (zeroValue el).run P w = .ok zv' w := by simp [zeroValue, typeInfo, k1, k2]
    rw [hzr] at this; injection this
  subst hzz
  obtain ⟨zs, hzs⟩ : ∃ zs : Array Value, (m.toNat * size = 0 ∧ zs = #[]) ∨ (m.toNat * size ≠ 0 ∧ zs = zv.cells) := by
    by_cases h0 : m.toNat * size = 0
    · exact ⟨#[], .inl ⟨h0, rfl⟩⟩
    · exact ⟨zv.cells, .inr ⟨h0, rfl⟩⟩
  obtain ⟨arr, harr⟩ : ∃ arr : Array Value, arr = (Array.range (m.toNat * size)).map (zs[· % zs.size]!) := ⟨_, rfl⟩
  have hrun : (Instr.makeSlice t (.int k n) (.int k' m)).run P w = .ok (.slice (some ⟨w.heap.size, 0, none⟩) n.toNat m.toNat) (w.alloc (.cells arr el)) := by
    have hw1 : IntKind.i64.wrap n = n := wrap_id (by omega) (by omega)
    have hw2 : IntKind.i64.wrap m = m := wrap_id (by omega) (by omega)
    have hcm : (bytes : Int) * m = m * bytes := Int.mul_comm _ _
    have hf1 : ((decide (m < 0) || decide ((bytes : Int) * m > 2 ^ 48)) || decide (n < 0) || decide (n > m)) = false := by
      simp only [Bool.or_eq_false_iff, decide_eq_false_iff_not]
      refine ⟨⟨⟨by omega, by rw [hcm]; omega⟩, by omega⟩, by omega⟩
    unfold Instr.makeSlice
    simp only [Sem.run_bind, run_underlying ht, Result.andThen_ok, asInt, asIntOf_run, Sem.run_pure, typeInfo, run_program, k1, hw1, hw2, k4]
    simp only [hf1, Bool.false_eq_true, if_false, Sem.run_bind, Sem.run_pure, Result.andThen_ok, run_askRoom, sizeOf, typeInfo, run_program, k1, k3]
    rcases hzs with ⟨e0, rfl⟩ | ⟨e0, rfl⟩
    · rw [if_pos e0]
      simp only [Sem.run_pure, Result.andThen_ok, newRow, Sem.run_bind, run_newObj, World.alloc_eq, harr]
    · rw [if_neg e0]
      simp only [Sem.run_bind, hzr, Sem.run_pure, Result.andThen_ok, newRow, run_newObj, World.alloc_eq, harr]
  obtain ⟨c1, c2, _⟩ := (VR.cv w (OO O ι H) ι H zv).cells hzc
  have hcell : ∀ (i j : Nat) (e d : AV), (List.replicate n.toNat (cv zv))[i]? = some e → e.cells[j]? = some d → ∃ u, arr[i * size + j]? = some u ∧ VR w (OO O ι H) ι H d u := by
    intro i j e d he hd
    rw [List.getElem?_replicate] at he
    split at he
    · rename_i hi
      injection he with he; subst he
      have hj : j < size := by rw [← k5, c1]; exact (List.getElem?_eq_some_iff.1 hd).1
      have hq : i * size + j < m.toNat * size := mul_lt_of (by omega) hj
      have hjz : j < zv.cells.size := by omega
      rcases hzs with ⟨e0, _⟩ | ⟨e0, rfl⟩
      · omega
      · refine ⟨zv.cells[j], ?_, c2 j d _ hd (Array.getElem?_eq_getElem hjz)⟩
        subst harr
        rw [Array.getElem?_map, Array.getElem?_eq_getElem (by simpa using hq)]
        obtain ⟨_, e2⟩ := div_of (i := i) hj
        simp only [Option.map_some, Array.getElem_range, k5, e2]
        rw [getElem!_pos zv.cells j hjz]
    · cases he
  have hlen : ∀ e ∈ List.replicate n.toNat (cv zv), e.cells.length = size := by
    intro e he
    rw [(List.mem_replicate.1 he).2, ← c1]; exact k5
  obtain ⟨h4, h5⟩ := hs.new ⟨el, size, List.replicate n.toNat (cv zv)⟩ arr hmt w (Below.refl _ _) rfl (by simp only [List.length_replicate, harr, Array.size_map, Array.size_range]; exact Nat.mul_le_mul_right _ (by omega)) hlen hcell
  refine ⟨.slice (some ⟨w.heap.size, 0, none⟩) n.toNat m.toNat, _, _, .value _, ?_, .inl rfl, h4, h5, ?_⟩
  · simp only [execOp, ho, h1, h2, hrun, Sem.run_bind, Result.andThen_ok, Sem.run_pure]
  · refine .own _ _ _ _ ⟨el, size, List.replicate n.toNat (cv zv)⟩ w.heap.size _ _ _ (by simp) (by simp) (upd_same _ _ _) rfl (by omega) (by omega) fun _ => ⟨by rw [Nat.zero_mul], by simp only [maxLen]; omega, arr, el, (0, 0), heap_alloc_new w _, by simp [harr]⟩

def Lend (H : List ABlk) (a b : AV) : Prop := ∀ (w0 : Base) (w : World) (O : Nat → Prop) (ι : Nat → Option Nat) (u : Value), Sit w0 O ι H w → VR w (OO O ι H) ι H a u → VR w (fun _ => False) noB [] b u

theorem Lend.pu {a : AV} (h : Pu a) : Lend H a a := fun w0 w O ι u hs hu => (h _ _ _ _ _ hu).lessO fun _ hx => hx.elim
theorem Lend.agg {cs ds : List AV} (hl : cs.length = ds.length) (h : ∀ (j : Nat) (c d : AV), cs[j]? = some c → ds[j]? = some d → Lend H c d) : Lend H (.agg cs) (.agg ds) := fun w0 w O ι u hs hu => by
  obtain ⟨arr, rfl, h1, h2⟩ := hu.agg_inv
  refine .agg ds arr (h1.trans hl) fun j d u hd hu => ?_
  have hj : j < cs.length := by rw [hl]; exact (List.getElem?_eq_some_iff.1 hd).1
  exact h j _ d (List.getElem?_eq_getElem hj) hd w0 w O ι u hs (h2 j _ u (List.getElem?_eq_getElem hj) hu)
theorem Lend.nilS : Lend H (.base (.slice none 0 0)) (.lst []) := fun w0 w O ι u hs hu => by
  have := hu.base_inv; subst this; exact .lnil

theorem Lend.own {b tot off len : Nat} {blk : ABlk} {ds : List AV} (h1 : H[b]? = some blk) (ht : blk.es.length = tot) (hl : off + len ≤ tot) (hdl : ds.length = len)
    (hd : ∀ (i : Nat) (e d : AV), i < len → blk.es[off + i]? = some e → ds[i]? = some d → e.cells.length = d.cells.length ∧ ∀ (j : Nat) (c c' : AV), e.cells[j]? = some c → d.cells[j]? = some c' → Lend H c c') :
    Lend H (.own b tot off len) (.lst ds) := fun w0 w O ι u hs hu => by
  cases hu with
  | staleOwn b tot off len blk' a n c h1' h2 => rw [h1] at h1'; cases h1'; omega
  | ownNil b blk' h1' he hi =>
    have : ds = [] := List.eq_nil_of_length_eq_zero hdl
    subst this; exact .lnil
  | own b tot off len blk' x n cap a h1' ht' hi hn hl' hcap ha =>
    rw [h1] at h1'; cases h1'
    obtain ⟨hx0, c0, hc, hcs, hsz, hel⟩ := hs.heap b blk x h1 hi
    rcases Nat.eq_zero_or_pos len with h0 | hpos
    · have : ds = [] := List.eq_nil_of_length_eq_zero (by omega)
      subst this
      exact .lst [] a n cap 0 (fun _ _ => undef) (by simp; omega) (by omega) (by have : 0 ≤ maxLen := Nat.zero_le _; omega) (by simp) (by simp) (by simp) (by simp)
    · obtain ⟨rfl, hmx, c1, ty, fz, hc1, hc2⟩ := ha (.inl (by omega))
      have hat : ∀ (i j : Nat) (d c : AV), ds[i]? = some d → d.cells[j]? = some c → ∃ u, w.cell? ⟨x, off * blk.sz + i * blk.sz + j, none⟩ = some u ∧ VR w (fun _ => False) noB [] c u := by
        intro i j d c hdi hcj
        have hil : i < len := by rw [← hdl]; exact (List.getElem?_eq_some_iff.1 hdi).1
        have hei : blk.es[off + i]? = some (blk.es[off + i]'(by omega)) := List.getElem?_eq_getElem (by omega)
        obtain ⟨h3, h4⟩ := hd i _ d hil hei hdi
        have hcj' : j < (blk.es[off + i]'(by omega)).cells.length := by rw [h3]; exact (List.getElem?_eq_some_iff.1 hcj).1
        obtain ⟨u, hu, hv⟩ := hel (off + i) j _ _ hei (List.getElem?_eq_getElem hcj')
        obtain ⟨ty3, fz3, hc⟩ := rowAt_el hc ⟨c1, ty, fz, hc1⟩
        refine ⟨u, ?_, h4 j _ c (List.getElem?_eq_getElem hcj') hcj w0 w O ι u hs hv⟩
        rw [← Nat.add_mul]
        simpa [World.cell?, hc] using hu
      have hsize : ∀ d ∈ ds, d.cells.length = blk.sz := by
        intro d hdm
        obtain ⟨i, hi', hdi⟩ := List.mem_iff_getElem.1 hdm
        have hdi' : ds[i]? = some d := by rw [List.getElem?_eq_getElem hi', hdi]
        have hei : blk.es[off + i]? = some (blk.es[off + i]'(by omega)) := List.getElem?_eq_getElem (by omega)
        obtain ⟨h3, _⟩ := hd i _ d (by omega) hei hdi'
        rw [← h3]
        exact hsz _ (List.getElem_mem _)
      exact .lst ds _ n cap blk.sz (fun i j => (w.cell? ⟨x, off * blk.sz + i * blk.sz + j, none⟩).getD undef) (by omega) (by omega) (by omega) hsize (fun _ _ => rfl)
        (fun i j d c hdi hcj => by obtain ⟨u, hu, _⟩ := hat i j d c hdi hcj; exact ⟨fun h => h, by simp only [hu, Option.getD_some]⟩)
        (fun i j d c hdi hcj => by obtain ⟨u, hu, hv⟩ := hat i j d c hdi hcj; simpa only [hu, Option.getD_some] using hv)

theorem Lend.ptr {b tot i off : Nat} {blk : ABlk} {e d : AV} (h1 : H[b]? = some blk) (ht : blk.es.length = tot) (he : blk.es[i]? = some e)
    (hl : e.cells.length = d.cells.length) (h : ∀ (j : Nat) (c c' : AV), e.cells[j]? = some c → d.cells[j]? = some c' → Lend H c c') : Lend H (.ptr b tot i off) (.iptr d off) := fun w0 w O ι u hs hu => by
  obtain ⟨x, hi, rfl, hel⟩ := hu.ptr_inv hs h1 ht he
  have hat : ∀ (j : Nat) (c : AV), d.cells[j]? = some c → ∃ u, w.cell? ⟨x, i * blk.sz + j, none⟩ = some u ∧ VR w (fun _ => False) noB [] c u := by
    intro j c hj
    have hj' : j < e.cells.length := by rw [hl]; exact (List.getElem?_eq_some_iff.1 hj).1
    obtain ⟨u, hu, hv⟩ := hel j _ (List.getElem?_eq_getElem hj')
    exact ⟨u, hu, h j _ c (List.getElem?_eq_getElem hj') hj w0 w O ι u hs hv⟩
  refine .iptr d off ⟨x, i * blk.sz + off, none⟩ (fun j => (w.cell? ⟨x, i * blk.sz + j, none⟩).getD undef) rfl (by simp) (fun j c hj => ?_) fun j c hj => ?_
  · obtain ⟨u, hu, _⟩ := hat j c hj
    exact ⟨fun h => h, by simp only [Nat.add_sub_cancel]; rw [hu]; rfl⟩
  · obtain ⟨u, hu, hv⟩ := hat j c hj
    simpa only [hu, Option.getD_some] using hv

def Sc (d : AV) : Prop := ∀ (w w' : World) (O O' : Nat → Prop) (ι : Nat → Option Nat) (H : List ABlk) (u : Value), VR w O noB [] d u → VR w' O' ι H d u
theorem Sc.base (v : Value) : Sc (.base v) := fun _ _ _ _ _ _ _ h => by cases h; exact .base _
theorem Sc.tup {cs : List AV} (h : ∀ c ∈ cs, Sc c) : Sc (.tup cs) := fun w w' O O' ι H u hu => by
  cases hu with
  | tup cs arr hlen hh => exact .tup cs arr hlen fun j c u hc hu => h c (List.mem_of_getElem? hc) _ _ _ _ _ _ _ (hh j c u hc hu)
theorem Sc.agg {cs : List AV} (h : ∀ c ∈ cs, Sc c) : Sc (.agg cs) := fun w w' O O' ι H u hu => by
  cases hu with
  | agg cs arr hlen hh => exact .agg cs arr hlen fun j c u hc hu => h c (List.mem_of_getElem? hc) _ _ _ _ _ _ _ (hh j c u hc hu)

theorem ql_callL {ρ : Operand → AV} {c : Call} {fx : Operand} {f : FuncId} {caps args : List AV} {d : AV} (hc : c.callee = .value fx)
    (hf : ρ fx = .clo f caps) (hl : (c.args.toList.map ρ ++ caps).length = args.length) (hp : ∀ (j : Nat) (a b : AV), (c.args.toList.map ρ ++ caps)[j]? = some a → args[j]? = some b → Lend H a b) (hd : Sc d) {m : List (Nat × Obj)} (h : FnM P m f args d) (hm : MemIn m ρ := by exact .inl rfl) : QL P H ρ (.call c) d := by
  intro o ho w0 O ι a w hs hv K Q hK
  rw [ho] at hv
  obtain ⟨⟨fn, h1, h2, h3⟩, h4⟩ := h
  have hmem : ∀ y, y = fx ∨ y ∈ c.args → y ∈ (Op.call c).operands := by
    intro y hy
    simp only [Op.operands, Call.operands, hc, Array.mem_append, List.mem_toArray, List.mem_singleton]
    exact hy
  have h5 := hv fx (.inl (hmem _ (.inl rfl)))
  rw [hf] at h5
  generalize hX : a.eval fx = X at h5
  cases h5 with
  | clo f caps arr hlen hcap =>
  have hargs : ∀ (j : Nat) (x : AV) (u : Value), (c.args.toList.map ρ ++ caps)[j]? = some x → (c.args.map a.eval ++ arr)[j]? = some u → VR w (OO O ι H) ι H x u := by
    intro j x u hx hu
    rw [List.getElem?_append] at hx
    rw [Array.getElem?_append] at hu
    simp only [List.length_map, Array.length_toList, Array.size_map] at hx hu
    split at hx
    · rename_i hj
      rw [if_pos hj] at hu
      simp only [List.getElem?_map, Array.getElem?_map, Array.getElem?_toList, Option.map_eq_some_iff] at hx hu
      obtain ⟨y, hy, rfl⟩ := hx
      obtain ⟨z, hz, rfl⟩ := hu
      rw [hy] at hz; cases hz
      exact hv y (.inl (hmem _ (.inr (Array.mem_of_getElem? hy))))
    · rename_i hj
      rw [if_neg hj] at hu
      exact hcap _ _ _ hx hu
  have hrun : (execOp a.eval o).run P w = .ok (.enter f (c.args.map a.eval ++ arr)) w := by
    unfold execOp
    rw [ho]
    simp only [resolve, hc, Deferred.ofValue, hX, Sem.run_bind, Sem.run_pure, Result.andThen_ok, invoke, Array.empty_append, callFunc_run h1 h2 h3]
  unfold Oper.wp
  rw [hrun, Oper.upon_enter]
  have hsl : (c.args.map a.eval ++ arr).size = (c.args.toList.map ρ ++ caps).length := by simp [hlen]
  refine (h4 w (fun _ => False) (c.args.map a.eval ++ arr) (fun p hp => ⟨id, (hm.get (hv _ (.inr rfl)) p hp).2⟩) (fun _ h => h.elim) (hsl.trans hl) fun j x u hx hu => ?_).mono ?_
  · have hj : j < (c.args.toList.map ρ ++ caps).length := by rw [hl]; exact (List.getElem?_eq_some_iff.1 hx).1
    have hy := List.getElem?_eq_getElem hj
    exact hp j _ x hy hx w0 w O ι u hs (hargs j _ u hy hu)
  · rintro e w' ⟨v, rfl, hv', hb'⟩
    exact hK v w' (hd _ _ _ _ _ _ _ hv') hb'
end
end Go.Ab
