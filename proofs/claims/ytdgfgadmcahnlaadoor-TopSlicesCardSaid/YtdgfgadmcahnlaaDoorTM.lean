/- Part of the proof. -/
import Derived.Test.YtdgfgadmcahnlaaDoorTJ
import Derived.Test.YtdgfgadmcahnlaaDoorAbF
import Derived.Test.YtdgfgadmcahnlaaDoorTL
import Derived.Test.YtdgfgadmcahnlaaDoorAbL
import Derived.Test.YtdgfgadmcahnlaaDoorAbK
set_option linter.unusedSimpArgs false
set_option linter.unusedVariables false
-- fnh
set_option maxHeartbeats 4000000
namespace Go.Ab
open Go Go.Ab Go.Proofs Go.Ab.Ty

/-! ### the closure that appends a character's parts -/
theorem BlkMv.one {r : Nat → Option Nat} {H : List ABlk} {ty sz : Nat} {e e2 : AV} (h : MvL r H e.cells e2.cells) : BlkMv r H ⟨ty, sz, [e]⟩ ⟨ty, sz, [e2]⟩ :=
  ⟨rfl, rfl, rfl, fun i x x2 h1 h2 => by
    cases i with
    | zero => simp at h1 h2; subst h1; subst h2; exact ⟨h.len, h.get⟩
    | succ i => simp at h1⟩
abbrev cellL (b n : Nat) : ABlk := ⟨96, 1, [.own b n 0 n]⟩
abbrev cloP : AV := .clo 98 [.ptr 0 1 0 0, .ptr 1 1 0 0]
abbrev cellP : ABlk := ⟨97, 1, [cloP]⟩
theorem Pu_r32B (l : List Int) : ∀ e ∈ (rbl l).es, ∀ c ∈ e.cells, Pu c := fun e he c hc => by
  obtain ⟨x, _, rfl⟩ := List.mem_map.1 he
  exact Pu_r32 x c hc
theorem cellL_mv {r : Nat → Option Nat} {H : List ABlk} {b b2 n : Nat} (h : r b = some b2) : BlkMv r H (cellL b n) (cellL b2 n) := .one ⟨.own h, trivial⟩
theorem cellP_mv {r : Nat → Option Nat} {H : List ABlk} (h0 : r 0 = some 0) (h1 : r 1 = some 1) : BlkMv r H cellP cellP := .one ⟨.clo rfl fun j c d hc hd => by
  match j with
  | 0 => simp at hc hd; subst hc; subst hd; exact .ptr h0
  | 1 => simp at hc hd; subst hc; subst hd; exact .ptr h1
  | j + 2 => simp at hc, trivial⟩
theorem CallE.put3 {HC : List ABlk} {k n n2 : Nat} {l l2 : List Int} (hk : 2 ≤ k) (h0 : HC[0]? = some (cellL k n)) (h1 : HC[1]? = some cellP) (h2 : HC[k]? = some (rbl l)) :
    CallE [0, 1, k] HC [cellL 2 n, cellP, rbl l] [cellL 2 n2, cellP, rbl l2] ((HC.set 0 (cellL k n2)).set k (rbl l2)) := by
  have hkl := (List.getElem?_eq_some_iff.1 h2).1
  have r0 : ro [0, 1, k] 0 = some 0 := rfl
  have r1 : ro [0, 1, k] 1 = some 1 := rfl
  have r2 : ro [0, 1, k] k = some 2 := ro_get (by simp; omega) rfl
  refine ⟨by simp; omega, rfl, fun j b h => ?_, by simp, by simp, fun b hb hn => ?_, fun j c bk h hbk => ?_⟩
  · match j with
    | 0 => simp at h; subst h; exact ⟨_, _, h0, rfl, cellL_mv r2⟩
    | 1 => simp at h; subst h; exact ⟨_, _, h1, rfl, cellP_mv r0 r1⟩
    | 2 => simp at h; subst h; exact ⟨_, _, h2, rfl, .pu (Pu_r32B l)⟩
    | j + 3 => simp at h
  · simp at hn
    rw [List.getElem?_set_ne (by omega), List.getElem?_set_ne (by omega)]
  · match j with
    | 0 => simp [rb] at h; subst h; simp at hbk; subst hbk; exact ⟨cellL k n2, by rw [List.getElem?_set_ne (by omega), List.getElem?_set_self (by omega)], cellL_mv rfl⟩
    | 1 => simp [rb] at h; subst h; simp at hbk; subst hbk; exact ⟨cellP, by rw [List.getElem?_set_ne (by omega), List.getElem?_set_ne (by omega)]; exact h1, cellP_mv rfl rfl⟩
    | 2 => simp [rb] at h; subst h; simp at hbk; subst hbk; exact ⟨rbl l2, List.getElem?_set_self (by simpa using hkl), .pu (Pu_r32B l2)⟩
    | j + 3 => simp at hbk
theorem putN_ok (c : Int) (hc : 0 ≤ c ∧ c < 2097152) (hp : prt c = none) (l : List Int) (hl : l.length ≤ 1000000) :
    FnH Tryd.prog 98 [r32 c, .ptr 0 1 0 0, .ptr 1 1 0 0] [cellL 2 l.length, cellP, rbl l] (.tup []) [cellL 2 (l ++ [c]).length, cellP, rbl (l ++ [c])] := by
  have i1 := parts_ok c hc
  rw [hp, encR_n] at i1
  refine FnH.intro' [(0, r32 c), (1, .ptr 0 1 0 0), (2, .ptr 1 1 0 0)] 3 29 3 Tryd.func98 (by kernel_rfl) rfl rfl rfl rfl rfl rfl ?_
  refine goD ?_
  refine callA (i1) ?_
  refine goD ?_
  refine ifT ?_
  refine goD ?_
  refine ARun.p1 rfl rfl (pl_append (b := 2) (tot := l.length) (es := [r32 c]) (by simp +decide only [go_sem] <;> rfl) (by simp +decide only [go_sem] <;> rfl) rfl (by simp) Tryd.underlying96 el21d rfl rfl (by simp) (fun e he => by rw [List.mem_singleton] at he; subst he; exact ⟨rfl, rfl⟩) (by simp; omega) (by simp; omega)) ?_
  refine goD ?_
  exact RetH.same rfl rfl (by show [cellL 2 (l.length + 1), cellP, ⟨21, 1, l.map r32 ++ [r32 c]⟩] = _; simp)
theorem put_ok : ∀ (n : Nat) (c : Int), 0 ≤ c ∧ c < 2097152 → deep n c → ∀ l : List Int, l.length + 3 ^ n ≤ 1000000 →
    FnH Tryd.prog 98 [r32 c, .ptr 0 1 0 0, .ptr 1 1 0 0] [cellL 2 l.length, cellP, rbl l] (.tup []) [cellL 2 (l ++ full n c).length, cellP, rbl (l ++ full n c)] := by
  intro n
  induction n with
  | zero => exact fun c hc hd l hl => putN_ok c hc hd l (by simp at hl; omega)
  | succ n ih =>
    intro c hc hd l hl
    have hl1 : l.length ≤ 1000000 := Nat.le_trans (Nat.le_add_right _ _) hl
    rcases hp : prt c with _ | p
    · have e : full (n + 1) c = [c] := by rw [full, hp]
      rw [e]
      exact putN_ok c hc hp l hl1
    · have e : full (n + 1) c = (p.map (full n)).flatten := by rw [full, hp]
      rcases hd with hd | ⟨p', hd, hne, hlen, hx⟩
      · rw [hp] at hd; cases hd
      rw [hp] at hd; injection hd with hd; subst hd
      have i1 := parts_ok c hc
      rw [hp, encR_s] at i1
      rw [e]
      have hfin : fillT n l p p.length = l ++ (p.map (full n)).flatten := by simp [fillT]
      have hfl := fun k h => fillT_len (n := n) (l := l) (p := p) (fun x hx' => (hx x hx').2) (k := k) h
      have hpow : 3 ^ (n + 1) = 3 ^ n * 3 := Nat.pow_succ ..
      refine FnH.intro' [(0, r32 c), (1, .ptr 0 1 0 0), (2, .ptr 1 1 0 0)] 3 29 3 Tryd.func98 (by kernel_rfl) rfl rfl rfl rfl rfl rfl ?_
      refine goD ?_
      refine callA (i1) ?_
      refine goD ?_
      refine ifF ?_
      refine goD ?_
      refine keA [1, 2, 7, 19, 20, 21] ?_
      refine AWp.loopH (J := fun k : Nat => k ≤ p.length) (fun k => [(21, .int k)]) (fun k => [cellL 2 (fillT n l p k).length, cellP, rbl (fillT n l p k)]) (fun k => p.length - k) 0 (Nat.zero_le _) (by simp only [fillT, List.take_zero, List.map_nil, List.flatten_nil, List.append_nil]; exact .wk) ?_
      intro k hk
      refine goD ?_
      refine ifA (fun h2 => ?_) (fun h2 => ?_)
      · have h2 := of_decide_eq_true h2
        have hk2 : k < p.length := by omega
        have hg : nth 0 p (k : Int) = p[k] := nth_eq hk2
        have hxx := hx _ (List.getElem_mem hk2)
        have hf := hfl k hk
        have hq : k * 3 ^ n + 3 ^ n ≤ 3 ^ n * 3 := by
          have : (k + 1) * 3 ^ n ≤ 3 * 3 ^ n := Nat.mul_le_mul_right _ (by omega)
          rw [Nat.add_mul, Nat.one_mul] at this; omega
        have i2 := ih p[k] hxx.1 hxx.2 (fillT n l p k) (by omega)
        rw [← fillT_s hk2] at i2
        refine goD ?_
        rw [hg]
        refine goD ?_
        refine ARun.p1 rfl rfl (pl_callH (e := [0, 1, 2]) (d' := .tup []) i2 (CallE.put3 (k := 2) (by omega) rfl rfl rfl) rfl (by simp +decide only [go_sem] <;> rfl) (by simp +decide only [go_sem, List.map]; exact ⟨.pu (.base _), .ptr rfl, .ptr rfl, trivial⟩) (.pu (.tup (by simp)))) ?_
        refine goD ?_
        rw [wrap_succ (by omega)]
        exact ⟨k + 1, by omega, by omega, .wk⟩
      · have h2 := of_decide_eq_false h2
        obtain rfl : k = p.length := by omega
        refine goD ?_
        rw [← hfin]
        exact RetH.same rfl rfl rfl
end Go.Ab
set_option maxHeartbeats 4000000
namespace Go.Ab
open Go Go.Ab Go.Proofs Go.Ab.Ty

/-! ### the canonical form -/
theorem canG_run : ∀ (M r l : List Int), (∀ y ∈ M, 0 < rk y) → canG r (M ++ l) = canG (r ++ M) l
  | [], r, l, _ => by simp
  | x :: M, r, l, h => by
    rw [List.cons_append, canG, if_pos (h x (by simp)), canG_run M (r ++ [x]) l fun y hy => h y (by simp [hy])]
    simp
theorem canL_run {M R : List Int} {x : Int} (h : ∀ y ∈ M, 0 < rk y) (hx : ¬ 0 < rk x) : canL (M ++ x :: R) = st M ++ x :: canL R := by
  rw [canL, canG_run M [] _ h, List.nil_append, canG, if_neg hx, st_pos h]; rfl
theorem canL_end {M : List Int} (h : ∀ y ∈ M, 0 < rk y) : canL M = st M := by
  have := canG_run M [] [] h
  rw [List.append_nil, List.nil_append] at this
  rw [canL, this, canG, st_pos h]
theorem canL_nil : canL [] = [] := rfl
theorem canL_len (L : List Int) : (canL L).length = L.length := by
  have : ∀ (l r : List Int), (∀ y ∈ r, 0 < rk y) → (canG r l).length = r.length + l.length := by
    intro l
    induction l with
    | nil => intro r hr; rw [canG, ← st_pos hr, st_len]; simp
    | cons x l ih =>
      intro r hr
      rw [canG]
      split
      · rename_i hx
        rw [ih _ fun y hy => by
          rcases List.mem_append.1 hy with hy | hy
          · exact hr y hy
          · rw [List.mem_singleton] at hy; subst hy; exact hx]
        simp; omega
      · rw [List.length_append, ← st_pos hr, st_len, List.length_cons, ih [] (fun y hy => by cases hy)]
        simp
  have h := this L [] (fun y hy => by cases hy)
  rw [List.length_nil, Nat.zero_add] at h
  exact h
def ptsL (s : ByteArray) (k : Nat) : List Int := ((riL s k).map (full 3)).flatten
theorem ptsL_0 (s : ByteArray) : ptsL s 0 = [] := rfl
theorem ptsL_s (s : ByteArray) (k : Nat) : ptsL s (k + 1) = ptsL s k ++ full 3 (rnA s k) := by
  simp [ptsL, riL, List.range_succ]
theorem ptsL_len (s : ByteArray) : ∀ k, (ptsL s k).length ≤ 27 * k
  | 0 => by simp [ptsL_0]
  | k + 1 => by
    have h1 := ptsL_len s k
    have h2 := full_len (n := 3) (deep3 (rnA s k))
    rw [ptsL_s, List.length_append]; omega
noncomputable def canS (s : ByteArray) : ByteArray := encS (canL (ptsL s (nch s)))
abbrev cellK (n : Nat) : ABlk := cellL 3 n
theorem canonical_ok (s : ByteArray) (hs : s.size ≤ 10000) : Fn Tryd.prog 73 [str s] (str (canS s)) := by
  have pu := fun k => put_ok 3 (rnA s k) (rn_rg s k) (deep3 _) (ptsL s k)
  refine Fn.intro' [(0, str s)] 1 46 Tryd.func73 (by kernel_rfl) rfl rfl rfl rfl rfl ?_
  refine goB ?_
  simp +decide only [List.map, go_sem]
  refine ARun.p1 rfl rfl (pl_rangeStr (by simp +decide only [go_sem] <;> rfl) Tryd.underlying9) ?_
  refine goB ?_
  refine keA [3, 4, 11] ?_
  refine AWp.weaken (Wk.nilC (H2 := [cellL 3 0, cellP, iterB s 0]) (E2 := [(3, .ptr 0 1 0 0), (4, .ptr 1 1 0 0), (11, .iterv 2)]) 21 1 ⟨.one ⟨.nil rfl, trivial⟩, ⟨.one ⟨.mv (.clo rfl fun j c d hc hd => by
    match j with
    | 0 => simp at hc hd; subst hc; subst hd; exact .ptr rfl
    | 1 => simp at hc hd; subst hc; subst hd; exact .ptr rfl
    | j + 2 => simp at hc), trivial⟩, ⟨.pu (PuB_iter s 0), trivial⟩⟩⟩ ⟨.ptr, .ptr, .iterv, trivial⟩) ?_
  refine AWp.loopH (J := fun k : Nat => ∀ j, j < k → pz s j < s.size) (fun k => []) (fun k => [cellL 3 (ptsL s k).length, cellP, iterB s (pz s k), rbl (ptsL s k)]) (fun k => s.size - pz s k) 0 (fun j h => by omega) .wk ?_
  intro k hk
  refine goB ?_
  by_cases h : pz s k < s.size
  · have hk1 : ∀ j, j < k + 1 → pz s j < s.size := fun j hj => by
      by_cases e : j < k
      · exact hk j e
      · obtain rfl : j = k := by omega
        exact h
    have hk2 : k < 10001 := by have := pz_ge s k; omega
    have hpl := ptsL_len s k
    have i1 := pu k (by omega)
    rw [← ptsL_s] at i1
    refine ARun.p1 rfl rfl (pl_nextStr (by simp +decide only [go_sem] <;> rfl) rfl h) ?_
    refine goB ?_
    refine ifT ?_
    refine goB ?_
    rw [dec_pz s k h, show ((Utf8.decode s (pz s k)).1 : Int) = rnA s k from rfl]
    refine ARun.p1 rfl rfl (pl_callH (e := [0, 1, 3]) (d' := .tup []) i1 (CallE.put3 (k := 3) (by omega) rfl rfl rfl) rfl (by simp +decide only [go_sem] <;> rfl) (by simp +decide only [go_sem, List.map]; exact ⟨.pu (.base _), .ptr rfl, .ptr rfl, trivial⟩) (.pu (.tup (by simp)))) ?_
    refine goB ?_
    exact ⟨k + 1, hk1, by have := pz_lt h; omega, .wk⟩
  refine ARun.q1 rfl rfl (ql_nextEnd (by simp +decide only [go_sem] <;> rfl) rfl (by omega)) ?_
  have hnl := nch_le s
  have hn : k = nch s := (nch_eq hk (by omega)).symm
  subst hn
  have hpl := ptsL_len s (nch s)
  unfold canS
  clear pu
  generalize ptsL s (nch s) = L at *
  refine goB ?_
  refine ifF ?_
  refine goB ?_
  refine keA [3, 7] ?_
  refine AWp.loopH (X := Nat × List Int × List Int × AV) (J := fun (f, P, R, u) => (f = P.length ∨ (R = [] ∧ f = P.length + 1)) ∧ P.length + R.length = L.length ∧ P ++ canL R = canL L) (fun (f, P, R, u) => [(7, .int f), (8, u)]) (fun (f, P, R, u) => [cellL 3 L.length, cellP, iterB s (pz s (nch s)), rbl (P ++ R)]) (fun (f, P, R, u) => L.length - f) (0, [], L, _) ⟨.inl rfl, by simp, rfl⟩ .wk ?_
  rintro ⟨f, P, R, u⟩ ⟨hf, hPR, hC⟩
  simp only
  have hb : ((P ++ R).length == L.length) = true := by rw [List.length_append, hPR]; exact beq_self_eq_true _
  repeat (first | (with_reducible first | apply zs | apply zN | apply z1 | apply z2 | apply z3 | apply z4 | apply z5 | apply z6 | refine z7 rfl ?_ | apply zb | apply zk | apply zr | apply ze | apply y1 | apply y2) | ((with_reducible apply zR); (refine ⟨rfl, rfl, ?_⟩; simp +decide only [go_sem, List.map]; rfl)) | ((with_reducible apply zG); (simp +decide only [go_sem, hb]; rfl); (simp +decide only [go_sem, hb]; (repeat simp +decide only [go_sem, hb]); rfl)) | (refine zp rfl rfl (pl_box (by simp +decide only [go_sem, hb]; rfl) rfl) ?_) | (refine zp rfl rfl (pl_alloc (by simp only [go_sem]; rfl) rfl) ?_) | (refine zp rfl rfl (pl_store (by simp +decide only [go_sem, hb]; rfl) (by simp +decide only [go_sem, hb]; rfl) (by simp +decide only [go_sem]; rfl) (by rfl) (by rfl) (by kernel_rfl) (by rfl) (by rfl)) ?_) | (refine zq rfl rfl (qi rfl rfl (by simp only [go_sem]; rfl) (by first | omega | (simp; omega)) (by kernel_rfl)) ?_) | (refine zq rfl rfl (qo rfl rfl (by simp only [go_sem]; rfl) rfl (by first | omega | (simp; omega)) (by simp only [go_sem] <;> rfl)) ?_) | (refine zq rfl rfl (qw 0 _ rfl rfl (by first | rfl | (simp only [Nat.zero_add] <;> rfl)) (by first | omega | (simp; omega)) (by simp only [go_sem] <;> rfl)) ?_) | (refine zq rfl rfl (qb (by simp only [go_sem]; rfl) (by simp only [go_sem]; rfl) (by decide) (by kernel_rfl) (by simp +decide only [List.map, go_sem] <;> rfl) (by simp +decide only [List.map, go_sem] <;> rfl) (by rfl)) ?_) | (refine zq rfl rfl (qn rfl rfl) ?_) | (refine zq rfl rfl (qx rfl rfl) ?_) | fail)
  refine ifA (fun h1 => ?_) (fun h1 => ?_)
  · have h1 := of_decide_eq_true h1
    have hf : f = P.length := by
      rcases hf with hf | ⟨rfl, hf⟩
      · exact hf
      · simp at hPR; omega
    refine goB ?_
    refine keA [3, 7, 8] ?_
    refine AWp.loopP (J := fun i : Nat => i ≤ R.length ∧ ∀ y ∈ R.take i, 0 < rk y) (fun i => [(8, .int ((f + i : Nat) : Int))]) (fun i => R.length - i) 0 ⟨Nat.zero_le _, by simp⟩ .wk ?_
    rintro i ⟨hi, hpos⟩
    obtain ⟨y, hy⟩ : ∃ y, y = aA R i := ⟨_, rfl⟩
    repeat (first | (with_reducible first | apply zs | apply zN | apply z1 | apply z2 | apply z3 | apply z4 | apply z5 | apply z6 | refine z7 rfl ?_ | apply zb | apply zk | apply zr | apply ze | apply y1 | apply y2) | ((with_reducible apply zR); (refine ⟨rfl, rfl, ?_⟩; simp +decide only [go_sem, List.map]; rfl)) | ((with_reducible apply zG); (simp +decide only [go_sem, hb]; rfl); (simp +decide only [go_sem, hb]; (repeat simp +decide only [go_sem, hb]); rfl)) | (refine zp rfl rfl (pl_box (by simp +decide only [go_sem, hb]; rfl) rfl) ?_) | (refine zp rfl rfl (pl_alloc (by simp only [go_sem]; rfl) rfl) ?_) | (refine zp rfl rfl (pl_store (by simp +decide only [go_sem, hb]; rfl) (by simp +decide only [go_sem, hb]; rfl) (by simp +decide only [go_sem]; rfl) (by rfl) (by rfl) (by kernel_rfl) (by rfl) (by rfl)) ?_) | (refine zq rfl rfl (qi rfl rfl (by simp only [go_sem]; rfl) (by first | omega | (simp; omega)) (by kernel_rfl)) ?_) | (refine zq rfl rfl (qo rfl rfl (by simp only [go_sem]; rfl) rfl (by first | omega | (simp; omega)) (by simp only [go_sem] <;> rfl)) ?_) | (refine zq rfl rfl (qw 0 _ rfl rfl (by first | rfl | (simp only [Nat.zero_add] <;> rfl)) (by first | omega | (simp; omega)) (by simp only [go_sem] <;> rfl)) ?_) | (refine zq rfl rfl (qb (by simp only [go_sem]; rfl) (by simp only [go_sem]; rfl) (by decide) (by kernel_rfl) (by simp +decide only [List.map, go_sem] <;> rfl) (by simp +decide only [List.map, go_sem] <;> rfl) (by rfl)) ?_) | (refine zq rfl rfl (qn rfl rfl) ?_) | (refine zq rfl rfl (qx rfl rfl) ?_) | fail)
    refine gqA (h := fun hg => ql_ixR (b := 3) (l := P ++ R) (by simp +decide only [go_sem] <;> rfl) (by simp +decide only [go_sem] <;> rfl) rfl (by simp; omega) (by omega) (by simp [gc, allL] at hg; omega)) (hr := ?_)
    refine goB ?_
    refine ARun.gl (v := r32 y) rfl rfl (by simp +decide only [go_sem] <;> rfl) (fun hg => ql_loadR (b := 3) (v := y) (by simp +decide only [go_sem] <;> rfl) rfl (by simp; omega) (by
      have hg' : i < R.length := by simp [gc, allL] at hg; omega
      have := at_A (X := P) (A := R) (R := []) (p := P.length) (i := i) rfl hg'
      rw [List.append_nil, ← hy] at this
      rw [hf]
      exact this)) ?_
    refine goB ?_
    refine gcallA (i := fun hg => rank_ok y) (hr := ?_)
    refine goB ?_
    refine keA [3, 7, 8, 34] ?_
    refine ifA (fun hd => ?_) (fun hd => ?_)
    · simp only [Bool.cond_eq_ite, Bool.if_false_right, Bool.and_eq_true, decide_eq_true_eq] at hd
      obtain ⟨d1, d2⟩ := hd
      have hil : i < R.length := by omega
      refine goB ?_
      rw [wrap_id (by omega) (by omega)]
      refine ⟨i + 1, ⟨by omega, fun z hz => ?_⟩, by omega, (.env' (by simp +decide only [go_sem, show ((f + (i + 1) : Nat) : Int) = ((f + i : Nat) : Int) + 1 by omega] <;> simp [Le.refl, show ((f + (i + 1) : Nat) : Int) = ((f + i : Nat) : Int) + 1 by omega]))⟩
      rw [List.take_succ_eq_append_getElem hil, List.mem_append, List.mem_singleton] at hz
      rcases hz with hz | hz
      · exact hpos z hz
      · rw [hz]
        simp only [aA, List.getElem?_eq_getElem hil, Option.getD_some] at hy
        rw [← hy]; exact d2
    simp only [Bool.cond_eq_ite, Bool.if_false_right, Bool.and_eq_false_iff, decide_eq_false_iff_not, decide_eq_true_eq] at hd
    obtain ⟨M, R2, rfl, hM⟩ : ∃ M R2, R = M ++ R2 ∧ M.length = i := ⟨R.take i, R.drop i, (List.take_append_drop _ _).symm, by simp; omega⟩
    have hposM : ∀ y ∈ M, 0 < rk y := fun y hy => hpos y (by rw [← hM]; simp [hy])
    simp only [List.length_append] at hPR
    have i2 := sortStable_ok P M R2 f i L.length (by omega) hM (by simp; omega) (by omega)
    rw [← List.append_assoc] at *
    refine goB ?_
    refine ARun.q1 rfl rfl (ql_slice_own (b := 3) (l := f) (h := f + i) (by simp +decide only [go_sem] <;> rfl) Tryd.underlying96 rfl (by simp; omega) (by simp [bnd, lk, go_sem]) (by simp [bnd, lk, go_sem]; omega) (by omega) (by omega) (by kernel_rfl)) ?_
    rw [Nat.zero_add, Nat.add_sub_cancel_left]
    refine goB ?_
    refine ARun.p1 rfl rfl (pl_callH (e := [3]) (d' := .tup []) i2 (CallE.put1 (b := 3) rfl (PuBl_R _) (PuBl_R _)) rfl (by simp +decide only [go_sem] <;> rfl) (by simp +decide only [go_sem, List.map]; exact ⟨.own rfl, .pu (.clo (by simp)), trivial⟩) (.pu (.tup (by simp)))) ?_
    refine goB ?_
    rw [wrap_id (by omega) (by omega), show ((f + i : Nat) : Int) + 1 = ((f + i + 1 : Nat) : Int) by omega]
    cases R2 with
    | nil =>
      rw [List.append_nil, canL_end hposM] at hC
      simp only [List.length_nil] at hPR
      refine ⟨(f + i + 1, P ++ st M, [], _), ⟨.inr ⟨rfl, by simp [st_len]; omega⟩, by simp [st_len]; omega, by rw [canL_nil, List.append_nil]; exact hC⟩, by simp only; omega, .wk⟩
    | cons x R3 =>
      simp only [List.length_cons] at hPR
      have hx : y = x := by
        rw [hy, ← hM]
        simp [aA]
      subst hx
      have hy0 : ¬ 0 < rk y := by omega
      rw [canL_run hposM hy0] at hC
      have e3 : P ++ st M ++ y :: R3 = (P ++ st M ++ [y]) ++ R3 := by simp
      rw [e3]
      refine ⟨(f + i + 1, P ++ st M ++ [y], R3, _), ⟨.inl (by simp [st_len]; omega), by simp [st_len]; omega, by rw [← hC]; simp⟩, by simp only; omega, .wk⟩
  have h1 := of_decide_eq_false h1
  have hR : R = [] := by
    rcases hf with hf | ⟨hf, _⟩
    · exact List.eq_nil_of_length_eq_zero (by omega)
    · exact hf
  subst hR
  rw [canL_nil, List.append_nil] at hC
  rw [List.append_nil, hC]
  refine goB ?_
  refine ARun.q1 rfl rfl (ql_runesStr (l := canL L) (by simp +decide only [go_sem] <;> rfl) (Lend.ownM (l := canL L) (f := r32) rfl (canL_len L) (fun x _ => Pu_r32 x)) Tryd.underlying96 (by kernel_rfl) Tryd.underlying9) ?_
  refine goB ?_
  exact Ret.data rfl rfl (.base _)
end Go.Ab
