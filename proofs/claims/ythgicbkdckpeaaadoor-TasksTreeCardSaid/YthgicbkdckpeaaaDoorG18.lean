/- Ranges over strings; a list of characters turned into a string. -/
import Derived.Test.YthgicbkdckpeaaaDoorG17
import Derived.Test.YthgicbkdckpeaaaDoorG15
set_option linter.unusedSimpArgs false
set_option linter.unusedVariables false
namespace Go.Ab
open Go

theorem Sit.mv {w0 : Base} {O : Nat → Prop} {ι : Nat → Option Nat} {w : World} {H1 : List ABlk} {B B2 blk0 : ABlk} {p : Nat} (hs : Sit w0 O ι (H1 ++ [B]) w) (hp : H1[p]? = some blk0) (he0 : blk0.es = []) (hm : ∀ b, b < w0.H.length → b < H1.length) (hne : B.es ≠ [])
    (hB : BlkMv (mvr H1.length p) (H1 ++ [B]) B B2) (hH : ∀ b blk, b ≠ p → H1[b]? = some blk → BlkMv (mvr H1.length p) (H1 ++ [B]) blk blk) :
    ∃ ι2, Sit w0 O ι2 (H1.set p B2) w ∧ Idx (mvr H1.length p) ι ι2 (H1 ++ [B]) (H1.set p B2) ∧ (∀ x, OO O ι2 (H1.set p B2) x → OO O ι (H1 ++ [B]) x) ∧ (∀ b, b ≠ p → ι2 b = ι b) := by
  have hpl : p < H1.length := (List.getElem?_eq_some_iff.1 hp).1
  obtain ⟨r, hr⟩ : ∃ r, r = mvr H1.length p := ⟨_, rfl⟩
  rw [← hr] at hB hH ⊢
  have rq : r H1.length = some p := by rw [hr, mvr, if_pos rfl]
  have rp : r p = none := by rw [hr, mvr, if_neg (by omega), if_pos rfl]
  have ro' : ∀ b, b ≠ p → b ≠ H1.length → r b = some b := fun b h1 h2 => by rw [hr, mvr, if_neg h2, if_neg h1]
  let ι2 : Nat → Option Nat := fun b => if b = p then ι H1.length else ι b
  have i2p : ι2 p = ι H1.length := if_pos rfl
  have i2o : ∀ b, b ≠ p → ι2 b = ι b := fun b h => if_neg h
  obtain ⟨H, hHd⟩ : ∃ H, H = H1 ++ [B] := ⟨_, rfl⟩
  obtain ⟨H2, hH2⟩ : ∃ H2, H2 = H1.set p B2 := ⟨_, rfl⟩
  rw [← hHd] at hs hB hH ⊢
  have hlen : H.length = H1.length + 1 := by rw [hHd]; simp
  have hlen2 : H2.length = H1.length := by rw [hH2]; simp
  have hq : H[H1.length]? = some B := by rw [hHd]; simp
  have hl1 : ∀ b, b < H1.length → H[b]? = H1[b]? := fun b h => by rw [hHd, List.getElem?_append_left h]
  have h2p : H2[p]? = some B2 := by rw [hH2, List.getElem?_set_self hpl]
  have h2o : ∀ b, b ≠ p → H2[b]? = H1[b]? := fun b h => by rw [hH2, List.getElem?_set_ne (fun e => h e.symm)]
  have hidx : Idx r ι ι2 H H2 := fun b j blk hbj hb => by
    have hbl := (List.getElem?_eq_some_iff.1 hb).1
    by_cases e1 : b = H1.length
    · subst e1
      rw [rq] at hbj; injection hbj with hbj; subst hbj
      rw [hq] at hb; injection hb with hb; subst hb
      exact ⟨B2, h2p, hB.2.2.1, hB.2.1, i2p⟩
    · by_cases e2 : b = p
      · subst e2; rw [rp] at hbj; cases hbj
      · rw [ro' b e2 e1] at hbj; injection hbj with hbj; subst hbj
        exact ⟨blk, by rw [h2o b e2, ← hl1 b (by omega)]; exact hb, rfl, rfl, i2o b e2⟩
  have hinv : ∀ b x, b < H2.length → ι2 b = some x → ∃ b', b' < H.length ∧ ι b' = some x ∧ (b = p ∧ b' = H1.length ∨ b ≠ p ∧ b' = b) := fun b x hb hx => by
    by_cases e : b = p
    · subst e; rw [i2p] at hx; exact ⟨_, by omega, hx, .inl ⟨rfl, rfl⟩⟩
    · rw [i2o b e] at hx; exact ⟨b, by omega, hx, .inr ⟨e, rfl⟩⟩
  have hOO : ∀ x, OO O ι2 H2 x → OO O ι H x := by
    rintro x (h | ⟨b, hb, hx⟩)
    · exact .inl h
    · obtain ⟨b', h1, h2, _⟩ := hinv b x hb hx; exact .inr ⟨b', h1, h2⟩
  have hne2 : B2.es ≠ [] := fun e => hne (List.eq_nil_of_length_eq_zero (by rw [← hB.2.2.1, e]; rfl))
  rw [← hH2]
  refine ⟨ι2, ⟨fun b blk x hb hx => ?_, fun b blk hb hx => ?_, fun b b' x hb hb' hx hx' => ?_, hs.below, hs.old, fun x b hO hb hx => ?_, ⟨fun b blk hb => ?_, fun b x blk blk' c ty fz h1 h2 hl hi hc => ?_⟩⟩, hidx, hOO, i2o⟩
  · by_cases e : b = p
    · subst e
      rw [h2p] at hb; injection hb with hb; subst hb
      rw [i2p] at hx
      obtain ⟨h3, h4⟩ := hs.heap _ _ x hq hx
      exact ⟨h3, (hB.br (O2 := OO O ι H) (fun _ => Iff.rfl) hidx h4).lessO hOO⟩
    · rw [h2o b e] at hb; rw [i2o b e] at hx
      have hbl := (List.getElem?_eq_some_iff.1 hb).1
      obtain ⟨h3, h4⟩ := hs.heap b blk x (by rw [hl1 b hbl]; exact hb) hx
      exact ⟨h3, ((hH b blk e hb).br (O2 := OO O ι H) (fun _ => Iff.rfl) hidx h4).lessO hOO⟩
  · by_cases e : b = p
    · subst e
      rw [i2p] at hx
      exact absurd (hs.empt _ _ hq hx) hne
    · rw [h2o b e] at hb; rw [i2o b e] at hx
      have hbl := (List.getElem?_eq_some_iff.1 hb).1
      exact hs.empt b blk (by rw [hl1 b hbl]; exact hb) hx
  · obtain ⟨c, h1, h2, h3⟩ := hinv b x hb hx
    obtain ⟨c', h1', h2', h3'⟩ := hinv b' x hb' hx'
    have := hs.inj c c' x h1 h1' h2 h2'
    rw [hlen2] at hb hb'
    rcases h3 with ⟨e1, e2⟩ | ⟨e1, e2⟩ <;> rcases h3' with ⟨e3, e4⟩ | ⟨e3, e4⟩ <;> omega
  · obtain ⟨c, h1, h2, _⟩ := hinv b x hb hx
    exact hs.disj x c hO h1 h2
  · have hbm : b < H1.length := hm b (List.getElem?_eq_some_iff.1 hb).1
    obtain ⟨blk', k1, k2, k3⟩ := hs.hist.blk b blk hb
    by_cases e : b = p
    · subst e
      have hpH : H[b]? = some blk0 := by rw [hl1 b hpl]; exact hp
      rw [hpH] at k1; injection k1 with k1; subst k1
      rw [he0] at k2
      simp only [List.length_nil, Nat.le_zero_eq] at k2
      exact ⟨B2, h2p, by omega, fun he => absurd (List.eq_nil_of_length_eq_zero (by omega)) hne2⟩
    · have hbl : b < H1.length := by omega
      rw [hl1 b hbl] at k1
      exact ⟨blk', by rw [h2o b e]; exact k1, k2, fun he => by rw [i2o b e]; exact k3 he⟩
  · by_cases e : b = p
    · subst e
      obtain ⟨blk2, k1, k2, k3⟩ := hs.hist.blk b blk h1
      have hpH : H[b]? = some blk0 := by rw [hl1 b hpl]; exact hp
      rw [hpH] at k1; injection k1 with k1; subst k1
      rw [he0] at k2
      simp only [List.length_nil, Nat.le_zero_eq] at k2
      rw [h2p] at h2; injection h2 with h2; subst h2
      exact absurd (List.eq_nil_of_length_eq_zero (by omega)) hne2
    · have hbm : b < H1.length := hm b (List.getElem?_eq_some_iff.1 h1).1
      rw [h2o b e] at h2
      exact hs.hist.size b x blk blk' c ty fz h1 (by rw [hl1 b (by omega)]; exact h2) hl hi hc
def drp (q b : Nat) : Option Nat := if b = q then none else some b
theorem Sit.drop {w0 : Base} {O : Nat → Prop} {ι : Nat → Option Nat} {w : World} {H1 : List ABlk} {B : ABlk} (hs : Sit w0 O ι (H1 ++ [B]) w) (hm : ∀ b, b < w0.H.length → b < H1.length) (hH : ∀ (b : Nat) (blk : ABlk), H1[b]? = some blk → BlkMv (drp H1.length) (H1 ++ [B]) blk blk) :
    Sit w0 O ι H1 w ∧ (∀ x, OO O ι H1 x → OO O ι (H1 ++ [B]) x) := by
  obtain ⟨H, hHd⟩ : ∃ H, H = H1 ++ [B] := ⟨_, rfl⟩
  rw [← hHd] at hs hH ⊢
  have hlen : H.length = H1.length + 1 := by rw [hHd]; simp
  have hl1 : ∀ b, b < H1.length → H[b]? = H1[b]? := fun b h => by rw [hHd, List.getElem?_append_left h]
  have hl2 : ∀ b blk, H1[b]? = some blk → H[b]? = some blk := fun b blk h => by rw [hl1 b (List.getElem?_eq_some_iff.1 h).1]; exact h
  have hidx : Idx (drp H1.length) ι ι H H1 := fun b j blk hbj hb => by
    have hbl := (List.getElem?_eq_some_iff.1 hb).1
    by_cases e1 : b = H1.length
    · rw [drp, if_pos e1] at hbj; cases hbj
    · rw [drp, if_neg e1] at hbj; injection hbj with hbj; subst hbj
      exact ⟨blk, by rw [← hl1 b (by omega)]; exact hb, rfl, rfl, rfl⟩
  have hOO : ∀ x, OO O ι H1 x → OO O ι H x := by
    rintro x (h | ⟨b, hb, hx⟩)
    · exact .inl h
    · exact .inr ⟨b, by omega, hx⟩
  refine ⟨⟨fun b blk x hb hx => ?_, fun b blk hb hx => hs.empt b blk (hl2 b blk hb) hx, fun b b' x hb hb' hx hx' => hs.inj b b' x (by omega) (by omega) hx hx', hs.below, hs.old, fun x b hO hb hx => hs.disj x b hO (by omega) hx, ⟨fun b blk hb => ?_, fun b x blk blk' c ty fz h1 h2 hl hi hc => hs.hist.size b x blk blk' c ty fz h1 (hl2 _ _ h2) hl hi hc⟩⟩, hOO⟩
  · obtain ⟨h3, h4⟩ := hs.heap b blk x (hl2 b blk hb) hx
    exact ⟨h3, ((hH b blk hb).br (O2 := OO O ι H) (fun _ => Iff.rfl) hidx h4).lessO hOO⟩
  · obtain ⟨blk', k1, k2, k3⟩ := hs.hist.blk b blk hb
    rw [hl1 b (hm b (List.getElem?_eq_some_iff.1 hb).1)] at k1
    exact ⟨blk', k1, k2, k3⟩
def Nb (q p : Nat) (b : Nat) : Prop := b ≠ p ∧ b ≠ q
theorem mvr_nb {q p b : Nat} (h : Nb q p b) : mvr q p b = some b := by rw [mvr, if_neg h.2, if_neg h.1]
section
variable {P : Program}
theorem PL.place {H H1 : List ABlk} {ρ : Operand → AV} {op : Op} {v v2 : AV} {B B2 blk0 blk1 : ABlk} {p : Nat} (h : PL P H ρ op v (H1 ++ [B])) (hlen : H.length = H1.length) (hp0 : H[p]? = some blk1) (he1 : blk1.es = []) (hp : H1[p]? = some blk0) (he0 : blk0.es = []) (hne : B.es ≠ [])
    (hB : BlkMv (mvr H1.length p) (H1 ++ [B]) B B2) (hH : ∀ b blk, b ≠ p → H1[b]? = some blk → BlkMv (mvr H1.length p) (H1 ++ [B]) blk blk) (hv : MvR (mvr H1.length p) (H1 ++ [B]) v v2) : PL P H ρ op v2 (H1.set p B2) := by
  intro o ho w0 O ι a w hs hr K Q hK
  refine h o ho w0 O ι a w hs hr K Q fun u w' ι' h1 h2 h3 => ?_
  obtain ⟨ι2, k1, k2, k3, k4⟩ := h1.mv hp he0 (fun b hb => by
    obtain ⟨blk', q1, _⟩ := hs.hist.blk b _ (List.getElem?_eq_getElem hb)
    rw [← hlen]; exact (List.getElem?_eq_some_iff.1 q1).1) hne hB hH
  have hpl : p < H1.length := (List.getElem?_eq_some_iff.1 hp).1
  have hne2 : B2.es.length ≠ 0 := fun e => hne (List.eq_nil_of_length_eq_zero (by rw [← hB.2.2.1, e]))
  have g2p : (H1.set p B2)[p]? = some B2 := List.getElem?_set_self hpl
  have g2o : ∀ b, b ≠ p → (H1.set p B2)[b]? = H1[b]? := fun b h => List.getElem?_set_ne (fun e => h e.symm)
  have gl : ∀ b, b < H1.length → (H1 ++ [B])[b]? = H1[b]? := fun b h => List.getElem?_append_left h
  refine hK u w' ι2 k1 ⟨h2.obj, fun q u hq hc hO => h2.outo q u hq hc (k3 _ hO), fun b blk hb => ?_, fun b x blk blk' c ty fz e1 e2 e3 e4 e5 => ?_⟩ ((hv _ w' (OO O ι' (H1 ++ [B])) ι' ι2 u k2 h3).lessO k3)
  · by_cases e : b = p
    · subst e
      rw [hp0] at hb; injection hb with hb; subst hb
      exact ⟨B2, g2p, by rw [he1]; exact Nat.zero_le _, fun e => by rw [he1] at e; exact absurd e hne2⟩
    · obtain ⟨blk', q1, q2, q3⟩ := h2.blk b blk hb
      have hbl : b < H1.length := by rw [← hlen]; exact (List.getElem?_eq_some_iff.1 hb).1
      rw [gl b hbl] at q1
      exact ⟨blk', by rw [g2o b e]; exact q1, q2, fun e' => by rw [k4 b e]; exact q3 e'⟩
  · by_cases e : b = p
    · subst e
      rw [hp0] at e1; injection e1 with e1; subst e1
      rw [g2p] at e2; injection e2 with e2; subst e2
      rw [he1] at e3; exact absurd e3 hne2
    · have hbl : b < H1.length := by rw [← hlen]; exact (List.getElem?_eq_some_iff.1 e1).1
      rw [g2o b e] at e2
      exact h2.size b x blk blk' c ty fz e1 (by rw [gl b hbl]; exact e2) e3 e4 e5
theorem PL.drop {H H1 : List ABlk} {ρ : Operand → AV} {op : Op} {v v2 : AV} {B : ABlk} (h : PL P H ρ op v (H1 ++ [B])) (hlen : H.length = H1.length) (hH : ∀ (b : Nat) (blk : ABlk), H1[b]? = some blk → BlkMv (drp H1.length) (H1 ++ [B]) blk blk)
    (hv : ∀ w O ι u, VR w O ι (H1 ++ [B]) v u → VR w O ι H1 v2 u) : PL P H ρ op v2 H1 := by
  intro o ho w0 O ι a w hs hr K Q hK
  refine h o ho w0 O ι a w hs hr K Q fun u w' ι' h1 h2 h3 => ?_
  obtain ⟨k1, k3⟩ := h1.drop (fun b hb => by
    obtain ⟨blk', q1, _⟩ := hs.hist.blk b _ (List.getElem?_eq_getElem hb)
    rw [← hlen]; exact (List.getElem?_eq_some_iff.1 q1).1) hH
  have gl : ∀ b, b < H1.length → (H1 ++ [B])[b]? = H1[b]? := fun b h => List.getElem?_append_left h
  refine hK u w' ι' k1 ⟨h2.obj, fun q u hq hc hO => h2.outo q u hq hc (k3 _ hO), fun b blk hb => ?_, fun b x blk blk' c ty fz e1 e2 e3 e4 e5 => ?_⟩ ((hv w' _ ι' u h3).lessO k3)
  · obtain ⟨blk', q1, q2, q3⟩ := h2.blk b blk hb
    have hbl : b < H1.length := by rw [← hlen]; exact (List.getElem?_eq_some_iff.1 hb).1
    rw [gl b hbl] at q1
    exact ⟨blk', q1, q2, q3⟩
  · have hbl : b < H1.length := by rw [← hlen]; exact (List.getElem?_eq_some_iff.1 e1).1
    exact h2.size b x blk blk' c ty fz e1 (by rw [gl b hbl]; exact e2) e3 e4 e5
theorem drp_ne {q b : Nat} (h : b ≠ q) : drp q b = some b := if_neg h
theorem VR.own0 {H : List ABlk} {B : ABlk} {w : World} {O : Nat → Prop} {ι : Nat → Option Nat} {u : Value} (hB : B.es = []) (h : VR w O ι (H ++ [B]) (.own H.length 0 0 0) u) : VR w O ι H (.lst []) u := by
  have hq : (H ++ [B])[H.length]? = some B := by simp
  cases h with
  | staleOwn _ _ _ _ blk a n c hb h => rw [hq] at hb; injection hb with hb; subst hb; rw [hB] at h; simp at h
  | ownNil => exact .lnil
  | own b tot off len blk x n cap a hb ht hi hn hl hcap ha => exact .lst [] a n cap 0 (fun _ _ => .bool true) (by simp [hn]) (by omega) (by simp [hn]) (by simp) (by simp) (by simp) (by simp)
theorem PL.own0 {H : List ABlk} {ρ : Operand → AV} {op : Op} {B : ABlk} (h : PL P H ρ op (.own H.length 0 0 0) (H ++ [B])) (hB : B.es = []) (hH : ∀ b ∈ H, RfB (fun b => b < H.length) b) : PL P H ρ op (.lst []) H :=
  PL.drop h rfl (fun b blk hb => (hH blk (List.mem_of_getElem? hb)).mv fun _ h => drp_ne (by omega)) fun w O ι u hu => hu.own0 hB
theorem PL.placeS {H : List ABlk} {ρ : Operand → AV} {op : Op} {v v2 : AV} {B blk0 : ABlk} {p : Nat} (h : PL P H ρ op v (H ++ [B])) (hp : H[p]? = some blk0) (he0 : blk0.es = []) (hne : B.es ≠ []) (hB : RfB (Nb H.length p) B) (hH : ∀ b ∈ H, RfB (Nb H.length p) b)
    (hv : MvR (mvr H.length p) (H ++ [B]) v v2) : PL P H ρ op v2 (H.set p B) :=
  PL.place h rfl hp he0 hp he0 hne (hB.mv fun _ h => mvr_nb h) (fun b blk _ hb => (hH blk (List.mem_of_getElem? hb)).mv fun _ h => mvr_nb h) hv
theorem MvR.ptrL {H : List ABlk} {B : ABlk} {p tot i off : Nat} : MvR (mvr H.length p) (H ++ [B]) (.ptr H.length tot i off) (.ptr p tot i off) := .ptr (by rw [mvr, if_pos rfl])
theorem MvR.ownL {H : List ABlk} {B : ABlk} {p tot off len : Nat} : MvR (mvr H.length p) (H ++ [B]) (.own H.length tot off len) (.own p tot off len) := .own (by rw [mvr, if_pos rfl])
theorem MvR.mapL {H : List ABlk} {B : ABlk} {p : Nat} : MvR (mvr H.length p) (H ++ [B]) (.mapv H.length) (.mapv p) := .mapv (by rw [mvr, if_pos rfl])
theorem pl_copy0 {H : List ABlk} {ρ : Operand → AV} {x y : Operand} {t t2 el : TypeId} {es : List AV} {bytes : Nat} (hx : ρ x = .lst []) (hy : ρ y = .lst es) (ht : P.underlying t = some (.slice el)) (hel : elI P el 1 bytes = true) :
    PL P H ρ (.call { callee := .builtin .copy, args := #[x, y], argTypes := #[t, t2] }) (.int 0) H := by
  refine PL.of_run fun w0 O ι a w hs hv o ho => ?_
  have h1 := hv x; rw [hx] at h1
  have h2 := hv y; rw [hy] at h2
  obtain ⟨i0, zz, e1, e2, e3, e4, e5, e6, _⟩ := elI_inv hel
  have hsz : (P.info? el).map (·.size) = some 1 := by simp [e1, e3]
  have hexec : ∀ (v' : Value) (w' : World), (Builtin.copy_ #[t, t2] o.type #[a.eval x, a.eval y]).run P w = .ok v' w' → (execOp a.eval o).run P w = .ok (.value v') w' := fun v' w' hr => by
    simp only [execOp, ho, resolve, invoke, builtin, Sem.run_bind, Sem.run_pure, Result.andThen_ok, List.map_toArray, List.map_cons, List.map_nil, hr]
  generalize he1 : a.eval x = X1 at h1 hexec
  generalize he2 : a.eval y = X2 at h2 hexec
  have key : ∀ (d' a' : Option Addr) (c' m' q' : Nat), X1 = .slice d' 0 c' → X2 = .slice a' m' q' → ∃ u w' ι' nx, (execOp a.eval o).run P w = .ok nx w' ∧ (nx = .value u ∨ (nx = .skip ∧ u = undef)) ∧ Sit w0 O ι' H w' ∧ Goes w (OO O ι H) ι H w' (OO O ι' H) ι' H ∧ VR w' (OO O ι' H) ι' H (.int 0) u := by
    intro d' a' c' m' q' ex1 ex2
    subst ex1; subst ex2
    have hr := run_copy_none (P := P) w t t2 o.type el d' a' 0 c' m' q' ht hsz (by simp)
    exact ⟨_, w, ι, _, hexec _ _ hr, .inl rfl, hs, Goes.quiet hs (.refl _ _), .base _⟩
  cases h1 with
  | lnil =>
    cases h2 with
    | lnil => exact key _ _ _ _ _ rfl rfl
    | lst => exact key _ _ _ _ _ rfl rfl
  | lst es' a1 n1 cap1 sz1 val1 hn1 =>
    simp only [List.length_nil] at hn1
    subst hn1
    cases h2 with
    | lnil => exact key _ _ _ _ _ rfl rfl
    | lst => exact key _ _ _ _ _ rfl rfl
end
end Go.Ab
namespace Go.Ab
open Go Go.RowKit

section
variable {P : Program} {w w' : World} {w0 : Base} {O : Nat → Prop} {ι : Nat → Option Nat} {H : List ABlk} {u : Value}
end
theorem Pub.iterv {H : List ABlk} {k b : Nat} (hb : b < k) : Pub H k (.iterv b) (.iterv b) := fun H2 w0 w O ι ι2 u hs v hu => by
  have hr : pre k b = some b := pre_lt hb
  cases hu with
  | staleIter b blk a h1 h2 =>
    obtain ⟨blk2, e1, e2, e3, e4⟩ := v.idx b b blk hr h1
    exact .staleIter _ blk2 _ e1 (by omega)
  | iterv b blk x h1 ht hi =>
    obtain ⟨blk2, e1, e2, e3, e4⟩ := v.idx b b blk hr h1
    exact .iterv _ blk2 x e1 (e2.trans ht) (e4.trans hi)
theorem NilR.iterv {H : List ABlk} {b : Nat} : NilR H (.iterv b) (.iterv b) := .mv fun H2 w O ι ι2 u v hu => by
  cases hu with
  | staleIter b blk a h1 h2 =>
    obtain ⟨blk2, e1, e2, e3, e4⟩ := v b b blk rfl h1
    exact .staleIter _ blk2 _ e1 (by omega)
  | iterv b blk x h1 ht hi =>
    obtain ⟨blk2, e1, e2, e3, e4⟩ := v b b blk rfl h1
    exact .iterv _ blk2 x e1 (e2.trans ht) (e4.trans hi)
end Go.Ab
