/- Part of the proof. -/
import Derived.Test.YtpgbgclphjgdbaaCF
import Derived.Test.YtpgbgclphjgdbaaAbQ
set_option linter.unusedSimpArgs false
set_option linter.unusedVariables false
set_option maxHeartbeats 4000000
namespace Go.Ab
open Go Go.Ab Go.Proofs Go.Ab.Ty

/-! ### decision graphs -/
structure Dg where
  row : Int
  path : List Int
  heads : List Nd
  subs : List Int
  other : Int
abbrev liI (l : List Int) : AV := .lst (l.map AV.int)
abbrev agT (r : Int) (p : List Int) (h : List Nd) (s : List Int) (o : Int) : AV := .agg [.int r, liI p, .lst (h.map encN), liI s, .int o]
def encR (t : Dg) : AV := agT t.row t.path t.heads t.subs t.other
structure Dg.ok (t : Dg) : Prop where
  hp : t.path.length ≤ maxLen
  hh : t.heads.length ≤ maxLen
  ho : ∀ x ∈ t.heads, x.ok
  hs : t.subs.length ≤ maxLen
theorem Pu_li (l : List Int) : Pu (liI l) := .lst fun e he c hc => by
  obtain ⟨x, _, rfl⟩ := List.mem_map.1 he
  simp only [AV.cells, List.mem_singleton] at hc; subst hc; exact .base _
theorem Pu_cR (t : Dg) : ∀ c ∈ (encR t).cells, Pu c := fun c hc => by
  simp only [encR, AV.cells, List.mem_cons, List.not_mem_nil, or_false] at hc
  rcases hc with rfl | rfl | rfl | rfl | rfl
  · exact .base _
  · exact Pu_li _
  · exact Pu_mapN _
  · exact Pu_li _
  · exact .base _
@[simp] theorem Pu_mapR (l : List Dg) : Pu (.lst (l.map encR)) := .lst fun e he c hc => by
  obtain ⟨x, _, rfl⟩ := List.mem_map.1 he
  exact Pu_cR x c hc
def partAt : List Int → Nd → Option Nd
  | [], v => some v
  | i :: p, v => if h : 0 ≤ i ∧ i.toNat < v.l.length then partAt p (v.l[i.toNat]'h.2) else none
def samP (part h : Nd) : Bool := decide (samH h.op h.s h.n part.op part.s part.n)
def nextT (t : Dg) (part : Nd) (i : Nat) : Int :=
  if fstI (samP part) (t.heads.drop i) i = -1 then t.other
  else if h : (fstI (samP part) (t.heads.drop i) i).toNat < t.subs.length then t.subs[(fstI (samP part) (t.heads.drop i) i).toNat] else -1
def runT (xs : List Dg) (v : Nd) : Nat → Int → Int
  | 0, _ => -1
  | k + 1, i => if h : 0 ≤ i ∧ i.toNat < xs.length then
      (if xs[i.toNat].heads = [] then xs[i.toNat].row else match partAt xs[i.toNat].path v with
        | none => -1
        | some p => runT xs v k (nextT xs[i.toNat] p 0)) else -1
section
variable {xs : List Dg} {v : Nd} {k : Nat}
theorem runT_out {i : Int} (h : ¬ (0 ≤ i ∧ i.toNat < xs.length)) : runT xs v (k + 1) i = -1 := by rw [runT, dif_neg h]
theorem runT_at {i : Nat} (h : i < xs.length) : runT xs v (k + 1) (i : Int) = (if xs[i].heads = [] then xs[i].row else match partAt xs[i].path v with
        | none => -1
        | some p => runT xs v k (nextT xs[i] p 0)) := by
  rw [runT, dif_pos ⟨Int.natCast_nonneg _, by simpa using h⟩]
  simp only [Int.toNat_natCast]
end
theorem partAt_cons {i : Int} {p : List Int} {v : Nd} (h : 0 ≤ i ∧ i.toNat < v.l.length) : partAt (i :: p) v = partAt p (v.l[i.toNat]'h.2) := by rw [partAt, dif_pos h]
theorem partAt_no {i : Int} {p : List Int} {v : Nd} (h : ¬ (0 ≤ i ∧ i.toNat < v.l.length)) : partAt (i :: p) v = none := by rw [partAt, dif_neg h]
theorem nthI {l : List Int} {k : Nat} (h : k < l.length) (d : Int) : nth d l (k : Int) = l[k] := nth_eq h
abbrev bxT (r : Int) (p : List Int) (h : List Nd) (s : List Int) (o : Int) : ABlk := ⟨55, 5, [agT r p h s o]⟩
abbrev bxE (x : Nd) : ABlk := ⟨27, 10, [encN x]⟩
theorem PuB_bxE (x : Nd) : ∀ e ∈ (bxE x).es, ∀ c ∈ e.cells, Pu c := PuB1 (Pu_cN x)
theorem PuB_bxT (r : Int) (p : List Int) (h : List Nd) (s : List Int) (o : Int) : ∀ e ∈ (bxT r p h s o).es, ∀ c ∈ e.cells, Pu c := PuB1 (Pu_cR ⟨r, p, h, s, o⟩)
theorem PuB_bxN (o : Int) (s : ByteArray) (n tk : Int) (tm : ByteArray) (tn : Int) (ta ts : List Tp) (l : List Nd) (a : Int) : ∀ e ∈ (bxN o s n tk tm tn ta ts l a).es, ∀ c ∈ e.cells, Pu c := PuB1 (by have := Pu_cN (.mk o s n tk tm tn ta ts l a); rwa [encN_mk] at this)
theorem bxE_mk (o : Int) (s : ByteArray) (n tk : Int) (tm : ByteArray) (tn : Int) (ta ts : List Tp) (l : List Nd) (a : Int) : bxE (.mk o s n tk tm tn ta ts l a) = bxN o s n tk tm tn ta ts l a := by rw [bxE, encN_mk]
section
variable {t : Dg} {x : Nd}
theorem nextT_no (h : fstI (samP x) t.heads 0 = -1) : nextT t x 0 = t.other := by
  unfold nextT
  rw [List.drop_zero, if_pos h]
theorem nextT_in {i : Nat} (h : fstI (samP x) t.heads 0 = i) (hi : i < t.subs.length) : nextT t x 0 = t.subs[i] := by
  unfold nextT
  simp only [List.drop_zero, h]
  rw [if_neg (by omega), dif_pos (by simpa using hi)]
  simp
theorem nextT_out {i : Nat} (h : fstI (samP x) t.heads 0 = i) (hi : ¬ i < t.subs.length) : nextT t x 0 = -1 := by
  unfold nextT
  simp only [List.drop_zero, h]
  rw [if_neg (by omega), dif_neg (by simpa using hi)]
end
/-! ### Run -/
theorem run_ok (xs : List Dg) (hx : xs.length ≤ maxLen) (hok : ∀ t ∈ xs, t.ok) (v : Nd) : Fn Try.prog 27 [.lst (xs.map encR), encN v] (.int (runT xs v 1000 0)) := by
  unfold maxLen at hx
  obtain ⟨R, hR⟩ : ∃ R, R = runT xs v 1000 0 := ⟨_, rfl⟩
  rw [← hR]
  have hev : encN v = encN v := rfl
  have hpv := Pu_cN v
  obtain ⟨e, he⟩ : ∃ e, encN v = e := ⟨_, rfl⟩
  refine (show Fn Try.prog 27 [.lst (xs.map encR), encN v] (.int R) from ?_)
  have hvo : ∃ o s n tk tm tn ta ts l a, v = .mk o s n tk tm tn ta ts l a := by obtain ⟨o, s, n, tk, tm, tn, ta, ts, l, a⟩ := v; exact ⟨_, _, _, _, _, _, _, _, _, _, rfl⟩
  refine Fn.intro' [(0, .lst (xs.map encR)), (1, encN v)] 2 81 Try.func27 (by kernel_rfl) rfl rfl rfl rfl rfl ?_
  have hml : (xs.map encR).length = xs.length := List.length_map _
  obtain ⟨o, s, n, tk, tm, tn, ta, ts, l, a, hve⟩ := hvo
  rw [show encN v = agN o s n tk tm tn ta ts l a by rw [hve, encN_mk]]
  refine goB ?_
  refine AWp.scopeR ?_
  refine goB ?_
  refine AWp.label (z1 ?_)
  refine goB ?_
  refine AWp.loop (J := fun y : Nat × Int => y.1 ≤ 1000 ∧ R = runT xs v (1000 - y.1) y.2) (fun y => ⟨[(0, .lst (xs.map encR)), (3, .ptr 0 1 0 0), (5, .int y.2), (12, .int y.1)], [bxN o s n tk tm tn ta ts l a]⟩) (fun y => 1000 - y.1) (0, 0) ⟨Nat.zero_le _, hR⟩ .wf ?_
  rintro ⟨k, i⟩ ⟨hk, hRk⟩
  simp only at hk hRk ⊢
  refine goB ?_
  refine ifA (fun hd => ?_) (fun hd => ?_)
  rotate_left
  · simp at hd
    obtain rfl : k = 1000 := by omega
    rw [show (1000 - 1000 : Nat) = 0 from rfl, runT] at hRk
    refine goB ?_
    rw [hRk]
    exact Ret.data rfl rfl (.base _)
  simp at hd
  obtain ⟨m, hm⟩ : ∃ m, 1000 - k = m + 1 := ⟨999 - k, by omega⟩
  have hm2 : 1000 - (k + 1) = m := by omega
  rw [hm] at hRk
  refine goB ?_
  by_cases hi : 0 ≤ i ∧ i.toNat < xs.length
  rotate_left
  · rw [runT_out hi] at hRk
    refine ift_ ?_ ?_ rfl
    rotate_left
    · simp; omega
    refine goB ?_
    rw [hRk]
    exact Ret.data rfl rfl (.base _)
  refine iff_ ?_ ?_ rfl
  rotate_left
  · simp; omega
  obtain ⟨j, rfl⟩ : ∃ j : Nat, i = j := ⟨i.toNat, by omega⟩
  have hj : j < xs.length := by simpa using hi.2
  rw [runT_at hj] at hRk
  have hto := hok _ (List.getElem_mem hj)
  have hidx : (xs.map encR)[j]? = some (encR xs[j]) := by rw [List.getElem?_map, List.getElem?_eq_getElem hj]; rfl
  generalize xs[j] = t at *
  obtain ⟨r, p, hs, sb, ot⟩ := t
  simp only at hRk
  rw [encR] at hidx
  simp only at hidx
  refine goB ?_
  refine ARun.q1 rfl rfl (ql_indexAddr_lst rfl rfl Try.underlying52 (by omega) hidx (by kernel_rfl)) ?_
  refine goB ?_
  by_cases hh : hs = []
  · rw [if_pos hh] at hRk
    refine ift_ ?_ ?_ rfl
    rotate_left
    · simp [hh]
    refine goB ?_
    rw [hRk]
    exact Ret.data rfl rfl (.base _)
  rw [if_neg hh] at hRk
  refine iff_ ?_ ?_ rfl
  rotate_left
  · simp; omega
  have hmp : (p.map AV.int).length = p.length := List.length_map _
  have hmh : (hs.map encN).length = hs.length := List.length_map _
  have hms : (sb.map AV.int).length = sb.length := List.length_map _
  obtain ⟨h1, h2, h3, h4⟩ := hto
  simp only at h1 h2 h3 h4
  unfold maxLen at h1 h2 h4
  refine goB ?_
  rw [show (⟨27, 10, [agN o s n tk tm tn ta ts l a]⟩ : ABlk) = bxE v by rw [bxE, hve, encN_mk]]
  refine AWp.loop (J := fun y : Nat × Nd => y.1 ≤ p.length ∧ partAt p v = partAt (p.drop y.1) y.2) (fun y => ⟨[(0, .lst (xs.map encR)), (3, .ptr 0 1 0 0), (5, .int j), (6, .ptr 1 1 0 0), (7, .ptr 2 1 0 0), (12, .int k), (34, liI p), (35, .int p.length), (36, .int y.1)], [bxN o s n tk tm tn ta ts l a, bxT r p hs sb ot, bxE y.2]⟩) (fun y => p.length - y.1) (0, v) ⟨Nat.zero_le _, rfl⟩ (by rw [← hmp]; exact .wf) ?_
  rintro ⟨q, x⟩ ⟨hq, hpq⟩
  simp only at hq hpq ⊢
  refine goB ?_
  refine ifA (fun hd2 => ?_) (fun hd2 => ?_)
  · simp at hd2
    have hq2 : q < p.length := by omega
    rw [List.drop_eq_getElem_cons hq2] at hpq
    have hnp := nthI hq2
    generalize p[q] = e at *
    obtain ⟨o2, s2, n2, tk2, tm2, tn2, ta2, ts2, l2, a2⟩ := x
    rw [bxE_mk]
    have hm2 : (l2.map encN).length = l2.length := List.length_map _
    refine goB ?_
    rw [hnp]
    refine goB ?_
    by_cases he : 0 ≤ e ∧ e.toNat < l2.length
    rotate_left
    · rw [partAt_no he] at hpq
      rw [hpq] at hRk
      simp only at hRk
      refine ift_ ?_ ?_ rfl
      rotate_left
      · simp; omega
      refine goB ?_
      rw [hRk]
      exact Ret.data rfl rfl (.base _)
    rw [partAt_cons he] at hpq
    simp only [Nd.l] at hpq
    refine iff_ ?_ ?_ rfl
    rotate_left
    · simp; omega
    obtain ⟨m2, rfl⟩ : ∃ m2 : Nat, e = m2 := ⟨e.toNat, by omega⟩
    simp only [Int.toNat_natCast] at hpq he
    have hidy : (l2.map encN)[m2]? = some (encN l2[m2]) := by rw [List.getElem?_map, List.getElem?_eq_getElem he.2]; rfl
    generalize l2[m2] = y at *
    obtain ⟨o3, s3, n3, tk3, tm3, tn3, ta3, ts3, l3, a3⟩ := y
    rw [encN_mk] at hidy
    refine goB ?_
    refine ARun.q1 rfl rfl (ql_indexAddr_lst rfl rfl Try.underlying22 (by omega) hidy (by kernel_rfl)) ?_
    refine goB ?_
    rw [wrap_succ (by omega)]
    refine ⟨(q + 1, .mk o3 s3 n3 tk3 tm3 tn3 ta3 ts3 l3 a3), ⟨hq2, hpq⟩, by simp only; omega, ?_⟩
    rw [bxE_mk]
    exact .wf
  simp at hd2
  obtain rfl : q = p.length := by omega
  rw [List.drop_length, partAt] at hpq
  rw [hpq] at hRk
  simp only at hRk
  have hno := @nextT_no ⟨r, p, hs, sb, ot⟩ x
  have hin := fun i => @nextT_in ⟨r, p, hs, sb, ot⟩ x i
  have hout := fun i => @nextT_out ⟨r, p, hs, sb, ot⟩ x i
  generalize nextT ⟨r, p, hs, sb, ot⟩ x 0 = N at *
  simp only at hno hin hout
  obtain ⟨F, hF⟩ : ∃ F, F = fstI (samP x) hs 0 := ⟨_, rfl⟩
  rw [← hF] at hno
  simp only [← hF] at hin hout
  refine goB ?_
  refine AWp.loop (J := fun i : Nat => i ≤ hs.length ∧ F = fstI (samP x) (hs.drop i) i) (fun i => ⟨[(0, .lst (xs.map encR)), (3, .ptr 0 1 0 0), (5, .int j), (6, .ptr 1 1 0 0), (7, .ptr 2 1 0 0), (12, .int k), (56, .lst (hs.map encN)), (57, .int hs.length), (58, .int i)], [bxN o s n tk tm tn ta ts l a, bxT r p hs sb ot, bxE x]⟩) (fun i => hs.length - i) 0 ⟨Nat.zero_le _, hF⟩ .wf ?_
  rintro i ⟨hi2, hFi⟩
  refine goB ?_
  refine ifA (fun hd3 => ?_) (fun hd3 => ?_)
  · simp at hd3
    have hi3 : i < hs.length := by omega
    rw [fstI_drop hi3] at hFi
    have hidy : (hs.map encN)[i]? = some (encN hs[i]) := by rw [List.getElem?_map, List.getElem?_eq_getElem hi3]; rfl
    generalize hs[i] = y at *
    obtain ⟨o3, s3, n3, tk3, tm3, tn3, ta3, ts3, l3, a3⟩ := y
    obtain ⟨o2, s2, n2, tk2, tm2, tn2, ta2, ts2, l2, a2⟩ := x
    have ih := sameHead_ok o3 s3 n3 tk3 tm3 tn3 ta3 ts3 l3 a3 o2 s2 n2 tk2 tm2 tn2 ta2 ts2 l2 a2
    rw [encN_mk] at hidy
    rw [bxE_mk]
    rw [show samP (.mk o2 s2 n2 tk2 tm2 tn2 ta2 ts2 l2 a2) (.mk o3 s3 n3 tk3 tm3 tn3 ta3 ts3 l3 a3) = decide (samH o3 s3 n3 o2 s2 n2) from rfl] at hFi
    refine goB ?_
    refine ARun.q1 rfl rfl (ql_indexAddr_lst rfl rfl Try.underlying22 (by omega) hidy (by kernel_rfl)) ?_
    refine goB ?_
    refine callA (ih) ?_
    refine goB ?_
    by_cases hsm : samH o3 s3 n3 o2 s2 n2
    rotate_left
    · rw [if_neg (by simp [hsm])] at hFi
      refine ift_ ?_ ?_ rfl
      rotate_left
      · simp [hsm]
      refine goB ?_
      rw [wrap_succ (by omega)]
      refine ⟨i + 1, ⟨hi3, hFi⟩, by omega, ?_⟩
      exact Wk.trimM 3 (Nat.zero_le _) rfl ⟨.pu (Pu_mapR xs), .ptr (by decide), .pu (.base _), .ptr (by decide), .ptr (by decide), .pu (.base _), .pu (Pu_mapN hs), .pu (.base _), .pu (.base _), trivial⟩ (pubB (.cons (PuB_bxN _ _ _ _ _ _ _ _ _ _) (.cons (PuB_bxT _ _ _ _ _) (.cons (PuB_bxN _ _ _ _ _ _ _ _ _ _) .nil))))
    rw [if_pos (by simp [hsm])] at hFi
    refine iff_ ?_ ?_ rfl
    rotate_left
    · simp [hsm]
    refine goB ?_
    by_cases hsb : i < sb.length
    · have hN := hin i hFi hsb
      have hnp := nthI hsb
      refine ift_ ?_ ?_ rfl
      rotate_left
      · simp [hsb]
      refine goB ?_
      rw [hnp]
      refine goB ?_
      rw [wrap_succ (by omega), ← hN]
      refine ⟨(k + 1, N), ⟨by simp only; omega, by simp only; rw [hm2]; exact hRk⟩, by simp only; omega, ?_⟩
      exact Wk.trimM 1 (Nat.zero_le _) rfl ⟨.pu (Pu_mapR xs), .ptr (by decide), .pu (.base _), .pu (.base _), trivial⟩ (pubB (.cons (PuB_bxN _ _ _ _ _ _ _ _ _ _) .nil))
    · have hN := hout i hFi hsb
      refine iff_ ?_ ?_ rfl
      rotate_left
      · simp; omega
      refine goB ?_
      rw [wrap_succ (by omega)]
      refine ⟨(k + 1, N), ⟨by simp only; omega, by simp only; rw [hm2]; exact hRk⟩, by simp only; omega, ?_⟩
      rw [hN]
      exact Wk.trimM 1 (Nat.zero_le _) rfl ⟨.pu (Pu_mapR xs), .ptr (by decide), .pu (.base _), .pu (.base _), trivial⟩ (pubB (.cons (PuB_bxN _ _ _ _ _ _ _ _ _ _) .nil))
  simp at hd3
  obtain rfl : i = hs.length := by omega
  rw [List.drop_length, fstI] at hFi
  have hno := hno hFi
  refine goB ?_
  rw [wrap_succ (by omega)]
  refine ⟨(k + 1, N), ⟨by simp only; omega, by simp only; rw [hm2]; exact hRk⟩, by simp only; omega, ?_⟩
  rw [hno]
  exact Wk.trimM 1 (Nat.zero_le _) rfl ⟨.pu (Pu_mapR xs), .ptr (by decide), .pu (.base _), .pu (.base _), trivial⟩ (pubB (.cons (PuB_bxN _ _ _ _ _ _ _ _ _ _) .nil))
end Go.Ab
