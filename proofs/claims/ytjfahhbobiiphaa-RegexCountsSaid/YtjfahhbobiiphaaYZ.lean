/- Part of the proof. -/
import Derived.Test.YtjfahhbobiiphaaYX
set_option linter.unusedSimpArgs false
set_option linter.unusedVariables false
set_option maxHeartbeats 4000000
namespace Go.Ab
open Go Go.Ab Go.Proofs Go.Ab.Ty

theorem MvR.ofid {r : Nat → Option Nat} {H : List ABlk} {a : AV} (h : ∀ b, b < H.length → r b = some b) : MvR r H a a := fun H2 w O ι ι2 u v hu => hu.mono
  ⟨fun _ _ _ h => h, fun p c h1 _ => h1, fun b blk hb => by
      obtain ⟨blk2, e1, e2, e3, e4⟩ := v b b blk (h b (List.getElem?_eq_some_iff.1 hb).1) hb
      exact ⟨blk2, e1, Nat.le_of_eq e2.symm, fun _ => ⟨e3, e4⟩⟩,
   fun b x blk blk' c ty fz _ _ _ _ h => ⟨c, ty, fz, h, rfl⟩⟩
theorem BlkMv.ofid {r : Nat → Option Nat} {H : List ABlk} {b : ABlk} (h : ∀ b, b < H.length → r b = some b) : BlkMv r H b b :=
  ⟨rfl, rfl, rfl, fun i e e2 h1 h2 => by
    rw [h1] at h2; injection h2 with h2; subst h2
    exact ⟨rfl, fun k c c2 h3 h4 => by
      rw [h3] at h4; injection h4 with h4; subst h4
      exact .ofid h⟩⟩
theorem ro_range {n b : Nat} (h : b < n) : ro (List.range n) b = some b := by
  unfold ro
  rw [List.findIdx?_eq_some_iff_getElem]
  refine ⟨by simpa using h, by simp, fun j hj => ?_⟩
  simp; omega
theorem rb_range {n j : Nat} : rb (List.range n) n j = some j := by
  unfold rb
  rw [List.length_range]
  split
  · rename_i h; rw [List.getElem?_range h]
  · congr 1; omega
theorem CallE.all {H H' : List ABlk} (hl : H.length ≤ H'.length) : CallE (List.range H.length) H H H' H' :=
  ⟨List.nodup_range, List.length_range, fun j b hj => by
    obtain ⟨h1, h2⟩ := List.getElem?_eq_some_iff.1 hj
    rw [List.length_range] at h1
    rw [List.getElem_range] at h2
    subst h2
    exact ⟨H[j], H[j], List.getElem?_eq_getElem h1, List.getElem?_eq_getElem h1, .ofid fun b hb => ro_range hb⟩, hl, by omega, fun b hb hn => absurd (List.mem_range.2 hb) hn, fun j c bk hr hb => by
    rw [rb_range] at hr; injection hr with hr; subst hr
    exact ⟨bk, hb, .ofid fun b _ => rb_range⟩⟩
theorem MvL.ofid {r : Nat → Option Nat} {H : List ABlk} (h : ∀ b, b < H.length → r b = some b) : ∀ l : List AV, MvL r H l l
  | [] => trivial
  | _ :: l => ⟨.ofid h, MvL.ofid h l⟩
theorem pl_callA {H H' : List ABlk} {ρ : Operand → AV} {c : Call} {fx : Operand} {f : FuncId} {caps args : List AV} {d : AV} (hf : FnH Try.prog f args H d H') (hl : H.length ≤ H'.length) (hc : c.callee = .value fx) (hfx : ρ fx = .clo f caps) (ha : c.args.toList.map ρ ++ caps = args) : PL Try.prog H ρ (.call c) d H' :=
  pl_callH hf (.all hl) hc hfx (by rw [ha]; exact .ofid (fun b hb => ro_range hb) _) (.ofid fun b _ => rb_range)

def eN (x : Nt) : Nat := (x.f.map List.length).sum
theorem sum_set : ∀ (l : List (List Nat)) (a : Nat) (v : List Nat), ((l.set a v).map List.length).sum ≤ (l.map List.length).sum - (l.getD a []).length + v.length ∧ (l.getD a []).length ≤ (l.map List.length).sum
  | [], a, v => by simp
  | x :: l, 0, v => by simp; omega
  | x :: l, a + 1, v => by
    obtain ⟨h1, h2⟩ := sum_set l a v
    simp only [List.set_cons_succ, List.map_cons, List.sum_cons, List.getD_cons_succ]
    omega
theorem eN_F (x : Nt) (p : Nat) : (x.F p).length ≤ eN x := (sum_set x.f p []).2
theorem eN_adf (x : Nt) (a : Nat) (bs : List Nat) : eN (adf x a bs) ≤ eN x + bs.length := by
  have h := sum_set x.f a (x.F a ++ bs)
  unfold eN adf
  simp only [List.length_append, Nt.F] at h ⊢
  omega
theorem eN_mor (x : Nt) : eN (mor x) = eN x := by simp [eN, mor]
theorem eN_sett (x : Nt) (a b : Nat) (S : ByteArray) : eN (sett x a b S) = eN x := rfl
theorem eN_layL : ∀ (l : List Rx), (∀ r ∈ l, ∀ x, eN (layN r x) + 2 ≤ eN x + 6 * r.cnt) → ∀ (x : Nt) (a b : Nat), eN (layL l x a b) ≤ eN x + 6 * cnts l
  | [], _, x, a, b => by simp [layL]
  | r :: l, h, x, a, b => by
    have h1 := h r (by simp) x
    have h2 := eN_layL l (fun r hr => h r (by simp [hr])) (adf (adf (layN r x) a [x.n]) (x.n + 1) [b]) a b
    have h3 := eN_adf (adf (layN r x) a [x.n]) (x.n + 1) [b]
    have h4 := eN_adf (layN r x) a [x.n]
    rw [layL, cnts]
    simp only [List.length_cons, List.length_nil] at h3 h4
    omega
theorem eN_layC : ∀ (l : List Rx), (∀ r ∈ l, ∀ x, eN (layN r x) + 2 ≤ eN x + 6 * r.cnt) → ∀ (x : Nt) (i : Nat), eN (layC l x i).1 ≤ eN x + 6 * cnts l
  | [], _, x, i => by simp [layC]
  | r :: l, h, x, i => by
    have h1 := h r (by simp) x
    have h2 := eN_layC l (fun r hr => h r (by simp [hr])) (adf (layN r x) i [x.n]) (x.n + 1)
    have h4 := eN_adf (layN r x) i [x.n]
    rw [layC, cnts]
    simp only [List.length_cons, List.length_nil] at h4
    omega
theorem eN_lay (r : Rx) : ∀ x, eN (layN r x) + 2 ≤ eN x + 6 * r.cnt := by
  induction r using Rx.ind with
  | h o S l ih =>
  intro x
  have hm : eN (mor (mor x)) = eN x := by rw [eN_mor, eN_mor]
  rw [layN, cnt_mk]
  split
  · have := eN_adf (mor (mor x)) x.n [x.n + 1]
    simp only [List.length_cons, List.length_nil] at this
    omega
  split
  · rw [eN_sett]; omega
  split
  · have := eN_layL l ih (mor (mor x)) x.n (x.n + 1)
    omega
  split
  · have := eN_layC l ih (mor (mor x)) x.n
    have h2 := eN_adf (layC l (mor (mor x)) x.n).1 (layC l (mor (mor x)) x.n).2 [x.n + 1]
    simp only [List.length_cons, List.length_nil] at h2
    omega
  split
  · match l, ih with
    | [], _ => rw [layS]; omega
    | r :: l, ih =>
      have h1 := ih r (by simp) (mor (mor x))
      rw [layS, cnts]
      have h2 := eN_adf (layN r (mor (mor x))) x.n [(mor (mor x)).n, x.n + 1]
      have h3 := eN_adf (adf (layN r (mor (mor x))) x.n [(mor (mor x)).n, x.n + 1]) ((mor (mor x)).n + 1) [x.n]
      simp only [List.length_cons, List.length_nil] at h2 h3
      omega
  · omega
end Go.Ab
set_option maxHeartbeats 4000000
namespace Go.Ab
open Go Go.Ab Go.Proofs Go.Ab.Ty

theorem netH_len (x : Nt) : (netH x).length = x.f.length + 4 := by simp [netH]
theorem layN_len {r : Rx} (hw : r.wf) (ht : r.tight) {x : Nt} (hx : x.Ok) : (netH x).length ≤ (netH (layN r x)).length := by
  have h := layN_ok r hw ht x hx
  rw [netH_len, netH_len, hx.1, h.ok.1]
  have := h.n.1
  unfold Nt.n at this; omega
theorem frE_mem2 {f : List (List Nat)} {e : AV} (h : e ∈ frE f) : ∃ p n, p < f.length ∧ e = .own (p + 4) n 0 n := by
  unfold frE at h
  obtain ⟨i, hi, rfl⟩ := List.mem_mapIdx.1 h
  exact ⟨_, _, hi, rfl⟩
theorem net_pub (H : List ABlk) (x : Nt) : ∀ blk ∈ netH x, ∀ e ∈ blk.es, ∀ c ∈ e.cells, Pub H (netH x).length c c := fun blk hb e he c hc => by
  have hl := netH_len x
  rcases List.mem_cons.1 hb with rfl | hb
  · rw [List.mem_singleton] at he; subst he
    simp only [AV.cells, List.mem_cons, List.not_mem_nil, or_false] at hc
    rcases hc with rfl | rfl | rfl <;> exact .own (by omega)
  rcases List.mem_cons.1 hb with rfl | hb
  · obtain ⟨p, n, hp, rfl⟩ := frE_mem2 he
    simp only [AV.cells, List.mem_singleton] at hc; subst hc
    exact .own (by omega)
  rcases List.mem_cons.1 hb with rfl | hb
  · obtain ⟨y, _, rfl⟩ := List.mem_map.1 he
    exact .pu (Pu_strs (l := x.s) y ‹_› c hc)
  rcases List.mem_cons.1 hb with rfl | hb
  · obtain ⟨y, _, rfl⟩ := List.mem_map.1 he
    simp only [AV.cells, List.mem_singleton] at hc; subst hc; exact .pu (.base _)
  · exact .pu (PuBl_inn x.f blk hb e he c hc)
theorem pl_stFr {H : List ABlk} {ρ : Operand → AV} {x y : Operand} {f : List (List Nat)} {p : Nat} {l' : List Nat} (hp : p < f.length) (hx : ρ x = .ptr 1 f.length p 0) (hy : ρ y = .own (p + 4) l'.length 0 l'.length) (hb : H[1]? = some (frB f)) : PL Try.prog H ρ (.store 107 x y) .bad (H.set 1 (frB (f.set p l'))) := by
  have := pl_store (P := Try.prog) (H := H) (ρ := ρ) (t := 107) (x := x) (y := y) (b := 1) (tot := f.length) (i := p) (off := 0) (blk := frB f) (v := .own (p + 4) l'.length 0 l'.length) (e := .own (p + 4) f[p].length 0 f[p].length) (e' := .own (p + 4) l'.length 0 l'.length) hx hy hb (frE_len f) (frE_get hp) sz107 rfl rfl
  rw [frB, ← frE_set]
  exact this
theorem layL_snoc (r : Rx) (a b : Nat) : ∀ (l : List Rx) (x : Nt), layL (l ++ [r]) x a b = adf (adf (layN r (layL l x a b)) a [(layL l x a b).n]) ((layL l x a b).n + 1) [b]
  | [], x => rfl
  | y :: l, x => by rw [List.cons_append, layL, layL_snoc r a b l, layL]
theorem layC_snoc (r : Rx) : ∀ (l : List Rx) (x : Nt) (i : Nat), layC (l ++ [r]) x i = (adf (layN r (layC l x i).1) (layC l x i).2 [(layC l x i).1.n], (layC l x i).1.n + 1)
  | [], x, i => rfl
  | y :: l, x, i => by rw [List.cons_append, layC, layC_snoc r l, layC]
theorem len_cntsN : ∀ l : List Rx, l.length ≤ cnts l
  | [] => by simp
  | .mk o s m :: l => by
    have := len_cntsN l
    rw [cnts, cnt_mk, List.length_cons]; omega
theorem lay_ok (r : Rx) : r.wf → r.tight → ∀ x : Nt, x.Ok → x.n + 2 * r.cnt ≤ 1000000 → eN x + 6 * r.cnt ≤ 1000000 → FnH Try.prog 139 [.ptr 0 1 0 0, encX r] (netH x) (.tup [.int x.n, .int ((x.n + 1 : Nat) : Int)]) (netH (layN r x)) := by
  induction r using Rx.ind with
  | h o S l ih =>
  intro hw ht x hx hn he
  rw [encX_mk]
  refine FnH.intro' [(0, .ptr 0 1 0 0), (1, .agg [.int o, str S, .lst (l.map encX)])] 2 208 (netH x).length Try.func139 (by kernel_rfl) rfl rfl rfl rfl rfl rfl ?_
  refine zs ?_
  refine reA ?_
  refine zOut ?_
  refine AWp.weaken (Wk.trimM (E2 := [(0, .ptr 0 1 0 0), (3, .iptr (.agg [.int o, str S, .lst (l.map encX)]) 0)]) (H2 := netH x) (netH x).length (Nat.le_refl _) (by simp) ?_ (net_pub _ x)) ?_
  · have hl := netH_len x
    exact ⟨.ptr (by omega), PubR.iptr (blk := ⟨24, 3, [.agg [.int o, str S, .lst (l.map encX)]]⟩) (e := .agg [.int o, str S, .lst (l.map encX)]) (pre_ge (by omega)) (by simp) rfl rfl (show PubRL _ _ [_, _, _] [_, _, _] from ⟨.pu (.base _), .pu (.base _), .pu (Pu_mapX l), trivial⟩), trivial⟩
  have i1 := more_ok x hx (by rw [cnt_mk] at hn; omega)
  have i2 := more_ok (mor x) (mor_ok hx) (by rw [cnt_mk] at hn; rw [mor_n]; omega)
  refine goC ?_
  refine ARun.p1 rfl rfl (pl_callA i1 (by rw [netH_len, netH_len]; simp [mor]) rfl (by simp +decide only [go_sem] <;> rfl) (by simp +decide only [go_sem] <;> rfl)) ?_
  refine goC ?_
  refine ARun.p1 rfl rfl (pl_callA i2 (by rw [netH_len, netH_len]; simp [mor]) rfl (by simp +decide only [go_sem] <;> rfl) (by simp +decide only [go_sem] <;> rfl)) ?_
  refine goC ?_
  have hm2 := mor_ok (mor_ok hx)
  have hm2n : (mor (mor x)).n = x.n + 2 := by rw [mor_n, mor_n]
  have hE2 : eN (mor (mor x)) = eN x := by rw [eN_mor, eN_mor]
  rw [cnt_mk] at hn he
  rw [mor_n]
  obtain ⟨hnd, hwl⟩ := wf_sub.1 hw
  have htl := (tight_sub.1 ht).2.2
  have hlk : ∀ r ∈ l, ∀ x', x'.Ok → LayOk x' (layN r x') (lng r) r.cnt := fun r hr x' hx' => layN_ok r (hwl r hr) (htl r hr) x' hx'
  have hcnt : ∀ k (h : k < l.length), cnts (l.take k) + l[k].cnt ≤ cnts l := fun k h => by
    have h1 : cnts (l.take (k + 1)) = cnts (l.take k) + l[k].cnt := by
      rw [List.take_succ_eq_append_getElem h, cnts_app, cnts, cnts]; rfl
    have h2 := cnts_app (l.take (k + 1)) (l.drop (k + 1))
    rw [List.take_append_drop] at h2
    omega
  have hlc := len_cntsN l
  by_cases h2 : o = 2
  · rw [decide_eq_true h2]
    refine ift_ ?_
    rw [layN, if_pos h2]
    generalize mor (mor x) = y at *
    have hya := hm2
    have hEa : eN y ≤ 1000000 := by omega
    have hfla : (frE y.f).length = y.n := by rw [frE_len]; exact hya.1
    have hfta : y.f.length = y.n := hya.1
    have hpla : (x.n) < y.f.length := by omega
    have hFea : y.F (x.n) = y.f[(x.n)] := by unfold Nt.F; rw [List.getD_eq_getElem?_getD, List.getElem?_eq_getElem hpla]; rfl
    have hgFa : (frE y.f)[(x.n)]? = some (.own (x.n + 4) (y.F (x.n)).length 0 (y.F (x.n)).length) := by rw [hFea]; exact frE_get hpla
    have hgia : (innB y.f)[(x.n)]? = some (inB' (y.F (x.n))) := by rw [hFea, List.getElem?_map, List.getElem?_eq_getElem hpla]; rfl
    have hena := Nat.le_trans (eN_F y (x.n)) hEa
    with_reducible apply AWp.drawK (k := 15) [none, none, none, none, none, none, none, none, none, none, none, none, none, none, some 0] (fun c => match c with
      | 0 => ntC y.n :: frB y.f :: seB y.s :: toB y.t :: innB y.f
      | _ => ntC y.n :: frB y.f :: seB y.s :: toB y.t :: (innB y.f).set (x.n) (inB' (y.F (x.n) ++ [x.n + 1]))) 1 follows
    · refine ⟨rfl, rfl, by kernel_rfl, by decide, ?_, ?_⟩
      · simp +decide only [go_sem, List.map, List.take]; rfl
      · simp +decide only [go_sem, List.map, List.drop]; rfl
    · kernel_rfl
    · rfl
    refine GRun.qf1 (v := .ptr 0 1 0 0) rfl rfl (by simp +decide only [go_sem] <;> rfl) (by simp +decide only [go_sem] <;> rfl) ?_
    refine GRun.qf1 (v := .ptr 0 1 0 0) rfl rfl (by simp +decide only [go_sem] <;> rfl) (by simp +decide only [go_sem] <;> rfl) ?_
    refine GRun.qf1 (v := .ptr 0 1 0 0) rfl rfl (by simp +decide only [go_sem] <;> rfl) (by simp +decide only [go_sem] <;> rfl) ?_
    refine GRun.qf1 (v := .own 1 y.n 0 y.n) rfl rfl (by simp +decide only [go_sem] <;> rfl) (by simp +decide only [go_sem] <;> rfl) ?_
    refine GRun.qf1 (v := iN (x.n)) rfl rfl (by simp +decide only [go_sem] <;> rfl) (by simp +decide only [go_sem] <;> rfl) ?_
    refine GRun.qf1 (v := .ptr 0 1 0 0) rfl rfl (by simp +decide only [go_sem] <;> rfl) (by simp +decide only [go_sem] <;> rfl) ?_
    refine GRun.qf1 (v := .ptr 0 1 0 0) rfl rfl (by simp +decide only [go_sem] <;> rfl) (by simp +decide only [go_sem] <;> rfl) ?_
    refine GRun.qf1 (v := .ptr 0 1 0 0) rfl rfl (by simp +decide only [go_sem] <;> rfl) (by simp +decide only [go_sem] <;> rfl) ?_
    refine GRun.qf1 (v := .own 1 y.n 0 y.n) rfl rfl (by simp +decide only [go_sem] <;> rfl) (by simp +decide only [go_sem] <;> rfl) ?_
    refine GRun.qf1 (v := iN (x.n)) rfl rfl (by simp +decide only [go_sem] <;> rfl) (by simp +decide only [go_sem] <;> rfl) ?_
    refine GRun.q1 (v := .ptr 1 y.n (0 + (((x.n) : Nat) : Int).toNat) 0) rfl rfl (fun d _ => ql_indexAddr_own (k := .i64) (n := (((x.n) : Nat) : Int)) (blk := frB y.f) (by simp +decide only [go_sem] <;> rfl) (by simp +decide only [go_sem] <;> rfl) Try.underlying103 (by match d with | 0 => rfl | _ + 1 => rfl) hfla (by omega) (by omega) (by kernel_rfl)) ?_
    refine GRun.q1 (v := .own ((x.n) + 4) (y.F (x.n)).length 0 (y.F (x.n)).length) rfl rfl (fun d _ => ql_ld107 (b := 1) (tot := y.n) (i := (x.n)) (es := frE y.f) (x := .own ((x.n) + 4) (y.F (x.n)).length 0 (y.F (x.n)).length) (by simp +decide only [go_sem] <;> simp) (by match d with | 0 => rfl | _ + 1 => rfl) hfla hgFa rfl) ?_
    refine GRun.qf1 (v := iN (x.n + 1)) rfl rfl (by simp +decide only [go_sem] <;> rfl) (by simp +decide only [go_sem] <;> rfl) ?_
    refine GRun.q1 (v := .lst [iN (x.n + 1)]) rfl rfl (fun d _ => ql_buildSlice (by decide) Try.underlying107 sz3 (by kernel_rfl) (by decide) (by (simp +decide only [List.map, go_sem] <;> rfl)) (by (simp +decide only [List.map, go_sem] <;> rfl)) rfl) ?_
    refine GRun.p1 (v := .own ((x.n) + 4) ((y.F (x.n)).length + 1) 0 ((y.F (x.n)).length + 1)) rfl rfl (fun ρ' h => ?_) ?_
    · have := pl_append (P := Try.prog) (ρ := ρ') (H := ntC y.n :: frB y.f :: seB y.s :: toB y.t :: innB y.f) (b := (x.n) + 4) (tot := (y.F (x.n)).length) (blk := inB' (y.F (x.n))) (es := [iN (x.n + 1)]) ((h (.tmp 36) (by simp [Op.operands, Call.operands])).trans (by simp +decide only [go_sem] <;> rfl)) ((h (.tmp 38) (by simp [Op.operands, Call.operands])).trans (by simp +decide only [go_sem] <;> rfl)) hgia (by simp) Try.underlying107 el3 rfl rfl (by simp) (fun e he => by simp only [List.mem_cons, List.not_mem_nil, or_false] at he; subst he; exact ⟨rfl, rfl⟩) (by simp; omega) (by simp; omega)
      rw [show ((innB y.f).set (x.n) (inB' (y.F (x.n) ++ [x.n + 1]))) = (innB y.f).set (x.n) ⟨3, 1, (y.F (x.n)).map iN ++ [iN (x.n + 1)]⟩ by rw [show inB' (y.F (x.n) ++ [x.n + 1]) = ⟨3, 1, (y.F (x.n)).map iN ++ [iN (x.n + 1)]⟩ by rw [inB', List.map_append]; rfl]]
      exact this
    refine GRun.nil ?_
    refine rcA ?_
    refine ARun.p1 rfl rfl (pl_stFr (f := y.f) (p := (x.n)) (l' := (y.F (x.n) ++ [x.n + 1])) hpla (by simp +decide only [go_sem] <;> simp [hfta]) (by simp +decide only [go_sem] <;> simp) rfl) ?_
    have hnea : ntC y.n :: frB (y.f.set (x.n) (y.F (x.n) ++ [x.n + 1])) :: seB y.s :: toB y.t :: (innB y.f).set (x.n) (inB' (y.F (x.n) ++ [x.n + 1])) = netH (adf y (x.n) [x.n + 1]) := by rw [show (innB y.f).set (x.n) (inB' (y.F (x.n) ++ [x.n + 1])) = innB (y.f.set (x.n) (y.F (x.n) ++ [x.n + 1])) by rw [innB, innB, List.map_set]]; rfl
    refine goC ?_
    rw [hnea]
    exact RetH.same (vs := [.int x.n, .int ((x.n + 1 : Nat) : Int)]) (by kernel_rfl) rfl rfl
  rw [decide_eq_false h2]
  refine iff_ ?_
  refine goC ?_
  by_cases h3 : o = 3
  · rw [decide_eq_true h3]
    refine ift_ ?_
    rw [layN, if_neg h2, if_pos h3]
    generalize mor (mor x) = y at *
    have hfl : y.f.length = y.n := hm2.1
    have hsl : y.s.length = y.n := hm2.2
    have htl : y.t.length = y.n := rfl
    have hsm : (y.s.map str).length = y.n := by rw [List.length_map]; exact hsl
    have htm : (y.t.map AV.int).length = y.n := by rw [List.length_map]; exact htl
    with_reducible apply AWp.drawK (k := 15) [none, none, none, none, none, none, none, none, none, none, none, none, none, none, some 0] (fun c => match c with
      | 0 => ntC y.n :: frB y.f :: seB y.s :: toB y.t :: innB y.f
      | _ => ntC y.n :: frB y.f :: seB (y.s.set x.n S) :: toB y.t :: innB y.f) 1 follows
    · refine ⟨rfl, rfl, by kernel_rfl, by decide, ?_, ?_⟩
      · simp +decide only [go_sem, List.map, List.take]; rfl
      · simp +decide only [go_sem, List.map, List.drop]; rfl
    · kernel_rfl
    · rfl
    refine GRun.qf1 (v := .ptr 0 1 0 0) rfl rfl (by simp +decide only [go_sem] <;> rfl) (by simp +decide only [go_sem] <;> rfl) ?_
    refine GRun.qf1 (v := .ptr 0 1 0 0) rfl rfl (by simp +decide only [go_sem] <;> rfl) (by simp +decide only [go_sem] <;> rfl) ?_
    refine GRun.qf1 (v := .ptr 0 1 0 1) rfl rfl (by simp +decide only [go_sem] <;> rfl) (by simp +decide only [go_sem] <;> rfl) ?_
    refine GRun.qf1 (v := .own 2 y.n 0 y.n) rfl rfl (by simp +decide only [go_sem] <;> rfl) (by simp +decide only [go_sem] <;> rfl) ?_
    refine GRun.qf1 (v := iN x.n) rfl rfl (by simp +decide only [go_sem] <;> rfl) (by simp +decide only [go_sem] <;> rfl) ?_
    refine GRun.qf1 (v := .ptr 0 1 0 0) rfl rfl (by simp +decide only [go_sem] <;> rfl) (by simp +decide only [go_sem] <;> rfl) ?_
    refine GRun.qf1 (v := .ptr 0 1 0 0) rfl rfl (by simp +decide only [go_sem] <;> rfl) (by simp +decide only [go_sem] <;> rfl) ?_
    refine GRun.qf1 (v := .ptr 0 1 0 2) rfl rfl (by simp +decide only [go_sem] <;> rfl) (by simp +decide only [go_sem] <;> rfl) ?_
    refine GRun.qf1 (v := .own 3 y.n 0 y.n) rfl rfl (by simp +decide only [go_sem] <;> rfl) (by simp +decide only [go_sem] <;> rfl) ?_
    refine GRun.qf1 (v := iN x.n) rfl rfl (by simp +decide only [go_sem] <;> rfl) (by simp +decide only [go_sem] <;> rfl) ?_
    refine GRun.qf1 (v := .iptr (.agg [.int o, str S, .lst (l.map encX)]) 1) rfl rfl (by simp +decide only [go_sem] <;> rfl) (by simp +decide only [go_sem] <;> rfl) ?_
    refine GRun.qf1 (v := str S) rfl rfl (by simp +decide only [go_sem] <;> rfl) (by simp +decide only [go_sem] <;> rfl) ?_
    refine GRun.qf1 (v := iN (x.n + 1)) rfl rfl (by simp +decide only [go_sem] <;> rfl) (by simp +decide only [go_sem] <;> rfl) ?_
    refine GRun.q1 (v := .ptr 2 y.n (0 + ((x.n : Nat) : Int).toNat) 0) rfl rfl (fun d _ => by
      match d with
      | 0 => exact ql_indexAddr_own (k := .i64) (n := ((x.n : Nat) : Int)) (blk := seB y.s) (by simp +decide only [go_sem] <;> rfl) (by simp +decide only [go_sem] <;> rfl) Try.underlying50 rfl hsm (by omega) (by omega) (by kernel_rfl)
      | _ + 1 => exact ql_indexAddr_own (k := .i64) (n := ((x.n : Nat) : Int)) (blk := seB (y.s.set x.n S)) (by simp +decide only [go_sem] <;> rfl) (by simp +decide only [go_sem] <;> rfl) Try.underlying50 rfl (by rw [List.length_map, List.length_set]; exact hsl) (by omega) (by omega) (by kernel_rfl)) ?_
    refine GRun.p1 (v := .bad) rfl rfl (fun ρ' h => pl_store_own (b := 2) (tot := y.n) (i := x.n) (ty := 9) (sz := 1) (l := y.s) (f := str) S ((h (.tmp 56) (by simp [Op.operands])).trans (by simp +decide only [go_sem] <;> simp)) ((h (.tmp 54) (by simp [Op.operands])).trans (by simp +decide only [go_sem] <;> rfl)) rfl hsl (by omega) sz9 rfl rfl) ?_
    refine GRun.nil ?_
    refine rcA ?_
    refine ARun.p1 rfl rfl (pl_store_own (b := 3) (tot := y.n) (i := x.n) (ty := 3) (sz := 1) (l := y.t) (f := AV.int) ((x.n + 1 : Nat) : Int) (by simp +decide only [go_sem] <;> simp) (by simp +decide only [go_sem] <;> rfl) rfl htl (by omega) sz3 rfl rfl) ?_
    refine goC ?_
    rw [show ntC y.n :: frB y.f :: seB (y.s.set x.n S) :: toB (y.t.set x.n ((x.n + 1 : Nat) : Int)) :: innB y.f = netH (sett y x.n (x.n + 1) S) by rw [netH, show (sett y x.n (x.n + 1) S).n = y.n from List.length_set]; rfl]
    exact RetH.same (vs := [.int x.n, .int ((x.n + 1 : Nat) : Int)]) (by kernel_rfl) rfl rfl
  rw [decide_eq_false h3]
  refine iff_ ?_
  refine goC ?_
  by_cases h5 : o = 5
  · rw [decide_eq_true h5]
    refine ift_ ?_
    rw [layN, if_neg h2, if_neg h3, if_pos h5]
    generalize hX : mor (mor x) = X at *
    have hLk := fun k (hk : k ≤ l.length) => layL_ok 0 (l.take k) (fun r hr x' hx' => hlk r (List.mem_of_mem_take hr) x' hx') X x.n (x.n + 1) hm2 (by omega) (by omega)
    have hEk := fun k (hk : k ≤ l.length) => eN_layL (l.take k) (fun r _ => eN_lay r) X x.n (x.n + 1)
    generalize hY : (fun k => layL (l.take k) X x.n (x.n + 1)) = Y
    have hY0 : Y 0 = X := by rw [← hY]; rfl
    have hYl : layL l X x.n (x.n + 1) = Y l.length := by rw [← hY]; simp only [List.take_length]
    have hYs : ∀ k (h : k < l.length), Y (k + 1) = adf (adf (layN l[k] (Y k)) x.n [(Y k).n]) ((Y k).n + 1) [x.n + 1] := fun k h => by
      rw [← hY]; simp only; rw [List.take_succ_eq_append_getElem h, layL_snoc]
    have hYo : ∀ k, k ≤ l.length → (Y k).Ok ∧ X.n ≤ (Y k).n ∧ (Y k).n ≤ X.n + 2 * cnts (l.take k) ∧ eN (Y k) ≤ eN X + 6 * cnts (l.take k) := fun k hk => by
      rw [← hY]
      have h1 := hLk k hk
      exact ⟨h1.1, h1.2.1, h1.2.2.1, hEk k hk⟩
    rw [hYl]
    clear hLk hEk hY
    refine goC ?_
    refine AWp.loop (J := fun k : Nat => k ≤ l.length) (fun k => ⟨[(0, .ptr 0 1 0 0), (3, .iptr (.agg [.int o, str S, .lst (l.map encX)]) 0), (6, iN x.n), (7, iN (x.n + 1)), (8, .int k)], netH (Y k)⟩) (fun k => l.length - k) 0 (Nat.zero_le _) (by rw [hY0]; exact .wf) ?_
    intro k hk
    have hml : (l.map encX).length = l.length := List.length_map _
    refine goD ?_
    refine ifA (fun hc => ?_) (fun hc => ?_)
    · have hc := of_decide_eq_true hc
      have hc : k < l.length := by omega
      have hYs := hYs k hc
      obtain ⟨g1, g2, g3, g4⟩ := hYo k hk
      have hck := hcnt k hc
      have hmem := List.getElem_mem hc
      have hlr := hlk _ hmem (Y k) g1
      have hir := ih _ hmem (hwl _ hmem) (htl _ hmem) (Y k) g1 (by omega) (by omega)
      have hll := layN_len (hwl _ hmem) (htl _ hmem) g1
      have hEr := eN_lay l[k] (Y k)
      have hidx : (l.map encX)[k]? = some (encX l[k]) := by rw [List.getElem?_map, List.getElem?_eq_getElem hc]; rfl
      generalize l[k] = r at *
      generalize Y k = w at *
      obtain ⟨o1, s1, l1⟩ := r
      rw [encX_mk] at hir hidx
      refine goC ?_
      refine ARun.q1 rfl rfl (ql_indexAddr_lst rfl rfl Try.underlying22 (by omega) (e := .agg [.int o1, str s1, .lst (l1.map encX)]) (by simpa using hidx) (by kernel_rfl)) ?_
      refine goC ?_
      refine ARun.p1 rfl rfl (pl_callA hir hll rfl (by simp +decide only [go_sem] <;> rfl) (by simp +decide only [go_sem] <;> rfl)) ?_
      refine goC ?_
      have hwn := hlr.n
      have hya := hlr.ok
      generalize layN (.mk o1 s1 l1) w = z at *
      have hEa : eN z ≤ 1000000 := by omega
      have hfla : (frE z.f).length = z.n := by rw [frE_len]; exact hya.1
      have hfta : z.f.length = z.n := hya.1
      have hpla : (x.n) < z.f.length := by omega
      have hFea : z.F (x.n) = z.f[(x.n)] := by unfold Nt.F; rw [List.getD_eq_getElem?_getD, List.getElem?_eq_getElem hpla]; rfl
      have hgFa : (frE z.f)[(x.n)]? = some (.own (x.n + 4) (z.F (x.n)).length 0 (z.F (x.n)).length) := by rw [hFea]; exact frE_get hpla
      have hgia : (innB z.f)[(x.n)]? = some (inB' (z.F (x.n))) := by rw [hFea, List.getElem?_map, List.getElem?_eq_getElem hpla]; rfl
      have hena := Nat.le_trans (eN_F z (x.n)) hEa
      with_reducible apply AWp.drawK (k := 15) [none, none, none, none, none, none, none, none, none, none, none, none, none, none, some 0] (fun c => match c with
        | 0 => ntC z.n :: frB z.f :: seB z.s :: toB z.t :: innB z.f
        | _ => ntC z.n :: frB z.f :: seB z.s :: toB z.t :: (innB z.f).set (x.n) (inB' (z.F (x.n) ++ [w.n]))) 1 follows
      · refine ⟨rfl, rfl, by kernel_rfl, by decide, ?_, ?_⟩
        · simp +decide only [go_sem, List.map, List.take]; rfl
        · simp +decide only [go_sem, List.map, List.drop]; rfl
      · kernel_rfl
      · rfl
      refine GRun.qf1 (v := .ptr 0 1 0 0) rfl rfl (by simp +decide only [go_sem] <;> rfl) (by simp +decide only [go_sem] <;> rfl) ?_
      refine GRun.qf1 (v := .ptr 0 1 0 0) rfl rfl (by simp +decide only [go_sem] <;> rfl) (by simp +decide only [go_sem] <;> rfl) ?_
      refine GRun.qf1 (v := .ptr 0 1 0 0) rfl rfl (by simp +decide only [go_sem] <;> rfl) (by simp +decide only [go_sem] <;> rfl) ?_
      refine GRun.qf1 (v := .own 1 z.n 0 z.n) rfl rfl (by simp +decide only [go_sem] <;> rfl) (by simp +decide only [go_sem] <;> rfl) ?_
      refine GRun.qf1 (v := iN (x.n)) rfl rfl (by simp +decide only [go_sem] <;> rfl) (by simp +decide only [go_sem] <;> rfl) ?_
      refine GRun.qf1 (v := .ptr 0 1 0 0) rfl rfl (by simp +decide only [go_sem] <;> rfl) (by simp +decide only [go_sem] <;> rfl) ?_
      refine GRun.qf1 (v := .ptr 0 1 0 0) rfl rfl (by simp +decide only [go_sem] <;> rfl) (by simp +decide only [go_sem] <;> rfl) ?_
      refine GRun.qf1 (v := .ptr 0 1 0 0) rfl rfl (by simp +decide only [go_sem] <;> rfl) (by simp +decide only [go_sem] <;> rfl) ?_
      refine GRun.qf1 (v := .own 1 z.n 0 z.n) rfl rfl (by simp +decide only [go_sem] <;> rfl) (by simp +decide only [go_sem] <;> rfl) ?_
      refine GRun.qf1 (v := iN (x.n)) rfl rfl (by simp +decide only [go_sem] <;> rfl) (by simp +decide only [go_sem] <;> rfl) ?_
      refine GRun.q1 (v := .ptr 1 z.n (0 + (((x.n) : Nat) : Int).toNat) 0) rfl rfl (fun d _ => ql_indexAddr_own (k := .i64) (n := (((x.n) : Nat) : Int)) (blk := frB z.f) (by simp +decide only [go_sem] <;> rfl) (by simp +decide only [go_sem] <;> rfl) Try.underlying103 (by match d with | 0 => rfl | _ + 1 => rfl) hfla (by omega) (by omega) (by kernel_rfl)) ?_
      refine GRun.q1 (v := .own ((x.n) + 4) (z.F (x.n)).length 0 (z.F (x.n)).length) rfl rfl (fun d _ => ql_ld107 (b := 1) (tot := z.n) (i := (x.n)) (es := frE z.f) (x := .own ((x.n) + 4) (z.F (x.n)).length 0 (z.F (x.n)).length) (by simp +decide only [go_sem] <;> simp) (by match d with | 0 => rfl | _ + 1 => rfl) hfla hgFa rfl) ?_
      refine GRun.qf1 (v := iN (w.n)) rfl rfl (by simp +decide only [go_sem] <;> rfl) (by simp +decide only [go_sem] <;> rfl) ?_
      refine GRun.q1 (v := .lst [iN (w.n)]) rfl rfl (fun d _ => ql_buildSlice (by decide) Try.underlying107 sz3 (by kernel_rfl) (by decide) (by (simp +decide only [List.map, go_sem] <;> rfl)) (by (simp +decide only [List.map, go_sem] <;> rfl)) rfl) ?_
      refine GRun.p1 (v := .own ((x.n) + 4) ((z.F (x.n)).length + 1) 0 ((z.F (x.n)).length + 1)) rfl rfl (fun ρ' h => ?_) ?_
      · have := pl_append (P := Try.prog) (ρ := ρ') (H := ntC z.n :: frB z.f :: seB z.s :: toB z.t :: innB z.f) (b := (x.n) + 4) (tot := (z.F (x.n)).length) (blk := inB' (z.F (x.n))) (es := [iN (w.n)]) ((h (.tmp 88) (by simp [Op.operands, Call.operands])).trans (by simp +decide only [go_sem] <;> rfl)) ((h (.tmp 90) (by simp [Op.operands, Call.operands])).trans (by simp +decide only [go_sem] <;> rfl)) hgia (by simp) Try.underlying107 el3 rfl rfl (by simp) (fun e he => by simp only [List.mem_cons, List.not_mem_nil, or_false] at he; subst he; exact ⟨rfl, rfl⟩) (by simp; omega) (by simp; omega)
        rw [show ((innB z.f).set (x.n) (inB' (z.F (x.n) ++ [w.n]))) = (innB z.f).set (x.n) ⟨3, 1, (z.F (x.n)).map iN ++ [iN (w.n)]⟩ by rw [show inB' (z.F (x.n) ++ [w.n]) = ⟨3, 1, (z.F (x.n)).map iN ++ [iN (w.n)]⟩ by rw [inB', List.map_append]; rfl]]
        exact this
      refine GRun.nil ?_
      refine rcA ?_
      refine ARun.p1 rfl rfl (pl_stFr (f := z.f) (p := (x.n)) (l' := (z.F (x.n) ++ [w.n])) hpla (by simp +decide only [go_sem] <;> simp [hfta]) (by simp +decide only [go_sem] <;> simp) rfl) ?_
      have hnea : ntC z.n :: frB (z.f.set (x.n) (z.F (x.n) ++ [w.n])) :: seB z.s :: toB z.t :: (innB z.f).set (x.n) (inB' (z.F (x.n) ++ [w.n])) = netH (adf z (x.n) [w.n]) := by rw [show (innB z.f).set (x.n) (inB' (z.F (x.n) ++ [w.n])) = innB (z.f.set (x.n) (z.F (x.n) ++ [w.n])) by rw [innB, innB, List.map_set]]; rfl
      refine goC ?_
      refine keF [0, 3, 6, 7, 8, 9, 10] ?_
      refine (show AWp Try.prog _ _ _ ⟨[(0, .ptr 0 1 0 0), (3, .iptr (.agg [.int o, str S, .lst (l.map encX)]) 0), (6, iN x.n), (7, iN (x.n + 1)), (8, .int k), (9, iN w.n), (10, iN (w.n + 1))], ntC z.n :: frB (z.f.set (x.n) (z.F (x.n) ++ [w.n])) :: seB z.s :: toB z.t :: (innB z.f).set (x.n) (inB' (z.F (x.n) ++ [w.n]))⟩ from ?_)
      rw [hnea]
      have hyb := adf_ok hya (x.n) [w.n]
      have hEb : eN (adf z x.n [w.n]) ≤ 1000000 := by
        have := eN_adf z x.n [w.n]
        simp only [List.length_cons, List.length_nil] at this
        omega
      have hzn : (adf z x.n [w.n]).n = z.n := rfl
      generalize adf z x.n [w.n] = z2 at *
      have hflb : (frE z2.f).length = z2.n := by rw [frE_len]; exact hyb.1
      have hftb : z2.f.length = z2.n := hyb.1
      have hplb : (w.n + 1) < z2.f.length := by omega
      have hFeb : z2.F (w.n + 1) = z2.f[(w.n + 1)] := by unfold Nt.F; rw [List.getD_eq_getElem?_getD, List.getElem?_eq_getElem hplb]; rfl
      have hgFb : (frE z2.f)[(w.n + 1)]? = some (.own (w.n + 1 + 4) (z2.F (w.n + 1)).length 0 (z2.F (w.n + 1)).length) := by rw [hFeb]; exact frE_get hplb
      have hgib : (innB z2.f)[(w.n + 1)]? = some (inB' (z2.F (w.n + 1))) := by rw [hFeb, List.getElem?_map, List.getElem?_eq_getElem hplb]; rfl
      have henb := Nat.le_trans (eN_F z2 (w.n + 1)) hEb
      with_reducible apply AWp.drawK (k := 15) [none, none, none, none, none, none, none, none, none, none, none, none, none, none, some 0] (fun c => match c with
        | 0 => ntC z2.n :: frB z2.f :: seB z2.s :: toB z2.t :: innB z2.f
        | _ => ntC z2.n :: frB z2.f :: seB z2.s :: toB z2.t :: (innB z2.f).set (w.n + 1) (inB' (z2.F (w.n + 1) ++ [x.n + 1]))) 1 follows
      · refine ⟨rfl, rfl, by kernel_rfl, by decide, ?_, ?_⟩
        · simp +decide only [go_sem, List.map, List.take]; rfl
        · simp +decide only [go_sem, List.map, List.drop]; rfl
      · kernel_rfl
      · rfl
      refine GRun.qf1 (v := .ptr 0 1 0 0) rfl rfl (by simp +decide only [go_sem] <;> rfl) (by simp +decide only [go_sem] <;> rfl) ?_
      refine GRun.qf1 (v := .ptr 0 1 0 0) rfl rfl (by simp +decide only [go_sem] <;> rfl) (by simp +decide only [go_sem] <;> rfl) ?_
      refine GRun.qf1 (v := .ptr 0 1 0 0) rfl rfl (by simp +decide only [go_sem] <;> rfl) (by simp +decide only [go_sem] <;> rfl) ?_
      refine GRun.qf1 (v := .own 1 z2.n 0 z2.n) rfl rfl (by simp +decide only [go_sem] <;> rfl) (by simp +decide only [go_sem] <;> rfl) ?_
      refine GRun.qf1 (v := iN (w.n + 1)) rfl rfl (by simp +decide only [go_sem] <;> rfl) (by simp +decide only [go_sem] <;> rfl) ?_
      refine GRun.qf1 (v := .ptr 0 1 0 0) rfl rfl (by simp +decide only [go_sem] <;> rfl) (by simp +decide only [go_sem] <;> rfl) ?_
      refine GRun.qf1 (v := .ptr 0 1 0 0) rfl rfl (by simp +decide only [go_sem] <;> rfl) (by simp +decide only [go_sem] <;> rfl) ?_
      refine GRun.qf1 (v := .ptr 0 1 0 0) rfl rfl (by simp +decide only [go_sem] <;> rfl) (by simp +decide only [go_sem] <;> rfl) ?_
      refine GRun.qf1 (v := .own 1 z2.n 0 z2.n) rfl rfl (by simp +decide only [go_sem] <;> rfl) (by simp +decide only [go_sem] <;> rfl) ?_
      refine GRun.qf1 (v := iN (w.n + 1)) rfl rfl (by simp +decide only [go_sem] <;> rfl) (by simp +decide only [go_sem] <;> rfl) ?_
      refine GRun.q1 (v := .ptr 1 z2.n (0 + (((w.n + 1) : Nat) : Int).toNat) 0) rfl rfl (fun d _ => ql_indexAddr_own (k := .i64) (n := (((w.n + 1) : Nat) : Int)) (blk := frB z2.f) (by simp +decide only [go_sem] <;> rfl) (by simp +decide only [go_sem] <;> rfl) Try.underlying103 (by match d with | 0 => rfl | _ + 1 => rfl) hflb (by omega) (by omega) (by kernel_rfl)) ?_
      refine GRun.q1 (v := .own ((w.n + 1) + 4) (z2.F (w.n + 1)).length 0 (z2.F (w.n + 1)).length) rfl rfl (fun d _ => ql_ld107 (b := 1) (tot := z2.n) (i := (w.n + 1)) (es := frE z2.f) (x := .own ((w.n + 1) + 4) (z2.F (w.n + 1)).length 0 (z2.F (w.n + 1)).length) (by simp +decide only [go_sem] <;> simp) (by match d with | 0 => rfl | _ + 1 => rfl) hflb hgFb rfl) ?_
      refine GRun.qf1 (v := iN (x.n + 1)) rfl rfl (by simp +decide only [go_sem] <;> rfl) (by simp +decide only [go_sem] <;> rfl) ?_
      refine GRun.q1 (v := .lst [iN (x.n + 1)]) rfl rfl (fun d _ => ql_buildSlice (by decide) Try.underlying107 sz3 (by kernel_rfl) (by decide) (by (simp +decide only [List.map, go_sem] <;> rfl)) (by (simp +decide only [List.map, go_sem] <;> rfl)) rfl) ?_
      refine GRun.p1 (v := .own ((w.n + 1) + 4) ((z2.F (w.n + 1)).length + 1) 0 ((z2.F (w.n + 1)).length + 1)) rfl rfl (fun ρ' h => ?_) ?_
      · have := pl_append (P := Try.prog) (ρ := ρ') (H := ntC z2.n :: frB z2.f :: seB z2.s :: toB z2.t :: innB z2.f) (b := (w.n + 1) + 4) (tot := (z2.F (w.n + 1)).length) (blk := inB' (z2.F (w.n + 1))) (es := [iN (x.n + 1)]) ((h (.tmp 104) (by simp [Op.operands, Call.operands])).trans (by simp +decide only [go_sem] <;> rfl)) ((h (.tmp 106) (by simp [Op.operands, Call.operands])).trans (by simp +decide only [go_sem] <;> rfl)) hgib (by simp) Try.underlying107 el3 rfl rfl (by simp) (fun e he => by simp only [List.mem_cons, List.not_mem_nil, or_false] at he; subst he; exact ⟨rfl, rfl⟩) (by simp; omega) (by simp; omega)
        rw [show ((innB z2.f).set (w.n + 1) (inB' (z2.F (w.n + 1) ++ [x.n + 1]))) = (innB z2.f).set (w.n + 1) ⟨3, 1, (z2.F (w.n + 1)).map iN ++ [iN (x.n + 1)]⟩ by rw [show inB' (z2.F (w.n + 1) ++ [x.n + 1]) = ⟨3, 1, (z2.F (w.n + 1)).map iN ++ [iN (x.n + 1)]⟩ by rw [inB', List.map_append]; rfl]]
        exact this
      refine GRun.nil ?_
      refine rcA ?_
      refine ARun.p1 rfl rfl (pl_stFr (f := z2.f) (p := (w.n + 1)) (l' := (z2.F (w.n + 1) ++ [x.n + 1])) hplb (by simp +decide only [go_sem] <;> simp [hftb]) (by simp +decide only [go_sem] <;> simp) rfl) ?_
      have hneb : ntC z2.n :: frB (z2.f.set (w.n + 1) (z2.F (w.n + 1) ++ [x.n + 1])) :: seB z2.s :: toB z2.t :: (innB z2.f).set (w.n + 1) (inB' (z2.F (w.n + 1) ++ [x.n + 1])) = netH (adf z2 (w.n + 1) [x.n + 1]) := by rw [show (innB z2.f).set (w.n + 1) (inB' (z2.F (w.n + 1) ++ [x.n + 1])) = innB (z2.f.set (w.n + 1) (z2.F (w.n + 1) ++ [x.n + 1])) by rw [innB, innB, List.map_set]]; rfl
      refine goC ?_
      rw [hneb, wrap_succ (by omega)]
      refine ⟨k + 1, hc, by omega, ?_⟩
      rw [hYs]
      exact .wf
    have hc := of_decide_eq_false hc
    obtain rfl : k = l.length := by omega
    refine AWp.exit ?_
    repeat (with_reducible apply thenQ_e)
    refine blkQ_e ?_
    refine goC ?_
    exact RetH.same (vs := [.int x.n, .int ((x.n + 1 : Nat) : Int)]) (by kernel_rfl) rfl rfl
  rw [decide_eq_false h5]
  refine iff_ ?_
  refine goC ?_
  by_cases h4 : o = 4
  · rw [decide_eq_true h4]
    refine ift_ ?_
    rw [layN, if_neg h2, if_neg h3, if_neg h5, if_pos h4]
    generalize hX : mor (mor x) = X at *
    have hLk := fun k (hk : k ≤ l.length) (h0 : l.take k ≠ []) => layC_ok (l.take k) (fun r hr x' hx' => hlk r (List.mem_of_mem_take hr) x' hx') X x.n hm2 (by omega) h0
    have hEk := fun k (hk : k ≤ l.length) => eN_layC (l.take k) (fun r _ => eN_lay r) X x.n
    generalize hY : (fun k => layC (l.take k) X x.n) = Y
    have hY0 : Y 0 = (X, x.n) := by rw [← hY]; rfl
    have hYl : layC l X x.n = Y l.length := by rw [← hY]; simp only [List.take_length]
    have hYs : ∀ k (h : k < l.length), Y (k + 1) = (adf (layN l[k] (Y k).1) (Y k).2 [(Y k).1.n], (Y k).1.n + 1) := fun k h => by
      rw [← hY]; simp only; rw [List.take_succ_eq_append_getElem h, layC_snoc]
    have hYo : ∀ k, k ≤ l.length → (Y k).1.Ok ∧ X.n ≤ (Y k).1.n ∧ (Y k).1.n ≤ X.n + 2 * cnts (l.take k) ∧ eN (Y k).1 ≤ eN X + 6 * cnts (l.take k) ∧ (Y k).2 < (Y k).1.n := fun k hk => by
      have h2 := hEk k hk
      cases k with
      | zero =>
        rw [hY0]
        exact ⟨hm2, Nat.le_refl _, by simp, by simp, by simp only; omega⟩
      | succ k =>
        have h1 := hLk (k + 1) hk (by
          intro e
          have := congrArg List.length e
          rw [List.length_take, List.length_nil] at this
          omega)
        rw [← hY]
        exact ⟨h1.1, Nat.le_trans (Nat.le_add_right _ 2) h1.2.1, h1.2.2.1, h2, h1.2.2.2.2.2.2.2.2.1⟩
    rw [hYl]
    clear hLk hEk hY
    refine goC ?_
    refine AWp.loop (J := fun k : Nat => k ≤ l.length) (fun k => ⟨[(0, .ptr 0 1 0 0), (3, .iptr (.agg [.int o, str S, .lst (l.map encX)]) 0), (6, iN x.n), (7, iN (x.n + 1)), (11, iN (Y k).2), (12, .int k)], netH (Y k).1⟩) (fun k => l.length - k) 0 (Nat.zero_le _) (by rw [hY0]; exact .wf) ?_
    intro k hk
    have hml : (l.map encX).length = l.length := List.length_map _
    refine goD ?_
    refine ifA (fun hc => ?_) (fun hc => ?_)
    · have hc := of_decide_eq_true hc
      have hc : k < l.length := by omega
      have hYs := hYs k hc
      obtain ⟨g1, g2, g3, g4, g5⟩ := hYo k hk
      have hck := hcnt k hc
      have hmem := List.getElem_mem hc
      have hlr := hlk _ hmem (Y k).1 g1
      have hir := ih _ hmem (hwl _ hmem) (htl _ hmem) (Y k).1 g1 (by omega) (by omega)
      have hll := layN_len (hwl _ hmem) (htl _ hmem) g1
      have hEr := eN_lay l[k] (Y k).1
      have hidx : (l.map encX)[k]? = some (encX l[k]) := by rw [List.getElem?_map, List.getElem?_eq_getElem hc]; rfl
      generalize l[k] = r at *
      generalize Y k = wa at *
      obtain ⟨w, at'⟩ := wa
      simp only at *
      obtain ⟨o1, s1, l1⟩ := r
      rw [encX_mk] at hir hidx
      refine goC ?_
      refine ARun.q1 rfl rfl (ql_indexAddr_lst rfl rfl Try.underlying22 (by omega) (e := .agg [.int o1, str s1, .lst (l1.map encX)]) (by simpa using hidx) (by kernel_rfl)) ?_
      refine goC ?_
      refine ARun.p1 rfl rfl (pl_callA hir hll rfl (by simp +decide only [go_sem] <;> rfl) (by simp +decide only [go_sem] <;> rfl)) ?_
      refine goC ?_
      have hwn := hlr.n
      have hya := hlr.ok
      generalize layN (.mk o1 s1 l1) w = z at *
      have hEa : eN z ≤ 1000000 := by omega
      have hfla : (frE z.f).length = z.n := by rw [frE_len]; exact hya.1
      have hfta : z.f.length = z.n := hya.1
      have hpla : (at') < z.f.length := by omega
      have hFea : z.F (at') = z.f[(at')] := by unfold Nt.F; rw [List.getD_eq_getElem?_getD, List.getElem?_eq_getElem hpla]; rfl
      have hgFa : (frE z.f)[(at')]? = some (.own (at' + 4) (z.F (at')).length 0 (z.F (at')).length) := by rw [hFea]; exact frE_get hpla
      have hgia : (innB z.f)[(at')]? = some (inB' (z.F (at'))) := by rw [hFea, List.getElem?_map, List.getElem?_eq_getElem hpla]; rfl
      have hena := Nat.le_trans (eN_F z (at')) hEa
      with_reducible apply AWp.drawK (k := 15) [none, none, none, none, none, none, none, none, none, none, none, none, none, none, some 0] (fun c => match c with
        | 0 => ntC z.n :: frB z.f :: seB z.s :: toB z.t :: innB z.f
        | _ => ntC z.n :: frB z.f :: seB z.s :: toB z.t :: (innB z.f).set (at') (inB' (z.F (at') ++ [w.n]))) 1 follows
      · refine ⟨rfl, rfl, by kernel_rfl, by decide, ?_, ?_⟩
        · simp +decide only [go_sem, List.map, List.take]; rfl
        · simp +decide only [go_sem, List.map, List.drop]; rfl
      · kernel_rfl
      · rfl
      refine GRun.qf1 (v := .ptr 0 1 0 0) rfl rfl (by simp +decide only [go_sem] <;> rfl) (by simp +decide only [go_sem] <;> rfl) ?_
      refine GRun.qf1 (v := .ptr 0 1 0 0) rfl rfl (by simp +decide only [go_sem] <;> rfl) (by simp +decide only [go_sem] <;> rfl) ?_
      refine GRun.qf1 (v := .ptr 0 1 0 0) rfl rfl (by simp +decide only [go_sem] <;> rfl) (by simp +decide only [go_sem] <;> rfl) ?_
      refine GRun.qf1 (v := .own 1 z.n 0 z.n) rfl rfl (by simp +decide only [go_sem] <;> rfl) (by simp +decide only [go_sem] <;> rfl) ?_
      refine GRun.qf1 (v := iN (at')) rfl rfl (by simp +decide only [go_sem] <;> rfl) (by simp +decide only [go_sem] <;> rfl) ?_
      refine GRun.qf1 (v := .ptr 0 1 0 0) rfl rfl (by simp +decide only [go_sem] <;> rfl) (by simp +decide only [go_sem] <;> rfl) ?_
      refine GRun.qf1 (v := .ptr 0 1 0 0) rfl rfl (by simp +decide only [go_sem] <;> rfl) (by simp +decide only [go_sem] <;> rfl) ?_
      refine GRun.qf1 (v := .ptr 0 1 0 0) rfl rfl (by simp +decide only [go_sem] <;> rfl) (by simp +decide only [go_sem] <;> rfl) ?_
      refine GRun.qf1 (v := .own 1 z.n 0 z.n) rfl rfl (by simp +decide only [go_sem] <;> rfl) (by simp +decide only [go_sem] <;> rfl) ?_
      refine GRun.qf1 (v := iN (at')) rfl rfl (by simp +decide only [go_sem] <;> rfl) (by simp +decide only [go_sem] <;> rfl) ?_
      refine GRun.q1 (v := .ptr 1 z.n (0 + (((at') : Nat) : Int).toNat) 0) rfl rfl (fun d _ => ql_indexAddr_own (k := .i64) (n := (((at') : Nat) : Int)) (blk := frB z.f) (by simp +decide only [go_sem] <;> rfl) (by simp +decide only [go_sem] <;> rfl) Try.underlying103 (by match d with | 0 => rfl | _ + 1 => rfl) hfla (by omega) (by omega) (by kernel_rfl)) ?_
      refine GRun.q1 (v := .own ((at') + 4) (z.F (at')).length 0 (z.F (at')).length) rfl rfl (fun d _ => ql_ld107 (b := 1) (tot := z.n) (i := (at')) (es := frE z.f) (x := .own ((at') + 4) (z.F (at')).length 0 (z.F (at')).length) (by simp +decide only [go_sem] <;> simp) (by match d with | 0 => rfl | _ + 1 => rfl) hfla hgFa rfl) ?_
      refine GRun.qf1 (v := iN (w.n)) rfl rfl (by simp +decide only [go_sem] <;> rfl) (by simp +decide only [go_sem] <;> rfl) ?_
      refine GRun.q1 (v := .lst [iN (w.n)]) rfl rfl (fun d _ => ql_buildSlice (by decide) Try.underlying107 sz3 (by kernel_rfl) (by decide) (by (simp +decide only [List.map, go_sem] <;> rfl)) (by (simp +decide only [List.map, go_sem] <;> rfl)) rfl) ?_
      refine GRun.p1 (v := .own ((at') + 4) ((z.F (at')).length + 1) 0 ((z.F (at')).length + 1)) rfl rfl (fun ρ' h => ?_) ?_
      · have := pl_append (P := Try.prog) (ρ := ρ') (H := ntC z.n :: frB z.f :: seB z.s :: toB z.t :: innB z.f) (b := (at') + 4) (tot := (z.F (at')).length) (blk := inB' (z.F (at'))) (es := [iN (w.n)]) ((h (.tmp 140) (by simp [Op.operands, Call.operands])).trans (by simp +decide only [go_sem] <;> rfl)) ((h (.tmp 142) (by simp [Op.operands, Call.operands])).trans (by simp +decide only [go_sem] <;> rfl)) hgia (by simp) Try.underlying107 el3 rfl rfl (by simp) (fun e he => by simp only [List.mem_cons, List.not_mem_nil, or_false] at he; subst he; exact ⟨rfl, rfl⟩) (by simp; omega) (by simp; omega)
        rw [show ((innB z.f).set (at') (inB' (z.F (at') ++ [w.n]))) = (innB z.f).set (at') ⟨3, 1, (z.F (at')).map iN ++ [iN (w.n)]⟩ by rw [show inB' (z.F (at') ++ [w.n]) = ⟨3, 1, (z.F (at')).map iN ++ [iN (w.n)]⟩ by rw [inB', List.map_append]; rfl]]
        exact this
      refine GRun.nil ?_
      refine rcA ?_
      refine ARun.p1 rfl rfl (pl_stFr (f := z.f) (p := (at')) (l' := (z.F (at') ++ [w.n])) hpla (by simp +decide only [go_sem] <;> simp [hfta]) (by simp +decide only [go_sem] <;> simp) rfl) ?_
      have hnea : ntC z.n :: frB (z.f.set (at') (z.F (at') ++ [w.n])) :: seB z.s :: toB z.t :: (innB z.f).set (at') (inB' (z.F (at') ++ [w.n])) = netH (adf z (at') [w.n]) := by rw [show (innB z.f).set (at') (inB' (z.F (at') ++ [w.n])) = innB (z.f.set (at') (z.F (at') ++ [w.n])) by rw [innB, innB, List.map_set]]; rfl
      refine goC ?_
      rw [hnea, wrap_succ (by omega)]
      refine ⟨k + 1, hc, by omega, ?_⟩
      rw [hYs]
      exact .wf
    have hc := of_decide_eq_false hc
    obtain rfl : k = l.length := by omega
    obtain ⟨g1, g2, g3, g4, g5⟩ := hYo _ (Nat.le_refl _)
    rw [List.take_length] at g3 g4
    generalize Y l.length = wa at *
    obtain ⟨w, at'⟩ := wa
    simp only at *
    refine AWp.exit ?_
    repeat (with_reducible apply thenQ_e)
    refine blkQ_e ?_
    refine goC ?_
    have hya := g1
    have hEa : eN w ≤ 1000000 := by omega
    have hfla : (frE w.f).length = w.n := by rw [frE_len]; exact hya.1
    have hfta : w.f.length = w.n := hya.1
    have hpla : (at') < w.f.length := by omega
    have hFea : w.F (at') = w.f[(at')] := by unfold Nt.F; rw [List.getD_eq_getElem?_getD, List.getElem?_eq_getElem hpla]; rfl
    have hgFa : (frE w.f)[(at')]? = some (.own (at' + 4) (w.F (at')).length 0 (w.F (at')).length) := by rw [hFea]; exact frE_get hpla
    have hgia : (innB w.f)[(at')]? = some (inB' (w.F (at'))) := by rw [hFea, List.getElem?_map, List.getElem?_eq_getElem hpla]; rfl
    have hena := Nat.le_trans (eN_F w (at')) hEa
    with_reducible apply AWp.drawK (k := 15) [none, none, none, none, none, none, none, none, none, none, none, none, none, none, some 0] (fun c => match c with
      | 0 => ntC w.n :: frB w.f :: seB w.s :: toB w.t :: innB w.f
      | _ => ntC w.n :: frB w.f :: seB w.s :: toB w.t :: (innB w.f).set (at') (inB' (w.F (at') ++ [x.n + 1]))) 1 follows
    · refine ⟨rfl, rfl, by kernel_rfl, by decide, ?_, ?_⟩
      · simp +decide only [go_sem, List.map, List.take]; rfl
      · simp +decide only [go_sem, List.map, List.drop]; rfl
    · kernel_rfl
    · rfl
    refine GRun.qf1 (v := .ptr 0 1 0 0) rfl rfl (by simp +decide only [go_sem] <;> rfl) (by simp +decide only [go_sem] <;> rfl) ?_
    refine GRun.qf1 (v := .ptr 0 1 0 0) rfl rfl (by simp +decide only [go_sem] <;> rfl) (by simp +decide only [go_sem] <;> rfl) ?_
    refine GRun.qf1 (v := .ptr 0 1 0 0) rfl rfl (by simp +decide only [go_sem] <;> rfl) (by simp +decide only [go_sem] <;> rfl) ?_
    refine GRun.qf1 (v := .own 1 w.n 0 w.n) rfl rfl (by simp +decide only [go_sem] <;> rfl) (by simp +decide only [go_sem] <;> rfl) ?_
    refine GRun.qf1 (v := iN (at')) rfl rfl (by simp +decide only [go_sem] <;> rfl) (by simp +decide only [go_sem] <;> rfl) ?_
    refine GRun.qf1 (v := .ptr 0 1 0 0) rfl rfl (by simp +decide only [go_sem] <;> rfl) (by simp +decide only [go_sem] <;> rfl) ?_
    refine GRun.qf1 (v := .ptr 0 1 0 0) rfl rfl (by simp +decide only [go_sem] <;> rfl) (by simp +decide only [go_sem] <;> rfl) ?_
    refine GRun.qf1 (v := .ptr 0 1 0 0) rfl rfl (by simp +decide only [go_sem] <;> rfl) (by simp +decide only [go_sem] <;> rfl) ?_
    refine GRun.qf1 (v := .own 1 w.n 0 w.n) rfl rfl (by simp +decide only [go_sem] <;> rfl) (by simp +decide only [go_sem] <;> rfl) ?_
    refine GRun.qf1 (v := iN (at')) rfl rfl (by simp +decide only [go_sem] <;> rfl) (by simp +decide only [go_sem] <;> rfl) ?_
    refine GRun.q1 (v := .ptr 1 w.n (0 + (((at') : Nat) : Int).toNat) 0) rfl rfl (fun d _ => ql_indexAddr_own (k := .i64) (n := (((at') : Nat) : Int)) (blk := frB w.f) (by simp +decide only [go_sem] <;> rfl) (by simp +decide only [go_sem] <;> rfl) Try.underlying103 (by match d with | 0 => rfl | _ + 1 => rfl) hfla (by omega) (by omega) (by kernel_rfl)) ?_
    refine GRun.q1 (v := .own ((at') + 4) (w.F (at')).length 0 (w.F (at')).length) rfl rfl (fun d _ => ql_ld107 (b := 1) (tot := w.n) (i := (at')) (es := frE w.f) (x := .own ((at') + 4) (w.F (at')).length 0 (w.F (at')).length) (by simp +decide only [go_sem] <;> simp) (by match d with | 0 => rfl | _ + 1 => rfl) hfla hgFa rfl) ?_
    refine GRun.qf1 (v := iN (x.n + 1)) rfl rfl (by simp +decide only [go_sem] <;> rfl) (by simp +decide only [go_sem] <;> rfl) ?_
    refine GRun.q1 (v := .lst [iN (x.n + 1)]) rfl rfl (fun d _ => ql_buildSlice (by decide) Try.underlying107 sz3 (by kernel_rfl) (by decide) (by (simp +decide only [List.map, go_sem] <;> rfl)) (by (simp +decide only [List.map, go_sem] <;> rfl)) rfl) ?_
    refine GRun.p1 (v := .own ((at') + 4) ((w.F (at')).length + 1) 0 ((w.F (at')).length + 1)) rfl rfl (fun ρ' h => ?_) ?_
    · have := pl_append (P := Try.prog) (ρ := ρ') (H := ntC w.n :: frB w.f :: seB w.s :: toB w.t :: innB w.f) (b := (at') + 4) (tot := (w.F (at')).length) (blk := inB' (w.F (at'))) (es := [iN (x.n + 1)]) ((h (.tmp 157) (by simp [Op.operands, Call.operands])).trans (by simp +decide only [go_sem] <;> rfl)) ((h (.tmp 159) (by simp [Op.operands, Call.operands])).trans (by simp +decide only [go_sem] <;> rfl)) hgia (by simp) Try.underlying107 el3 rfl rfl (by simp) (fun e he => by simp only [List.mem_cons, List.not_mem_nil, or_false] at he; subst he; exact ⟨rfl, rfl⟩) (by simp; omega) (by simp; omega)
      rw [show ((innB w.f).set (at') (inB' (w.F (at') ++ [x.n + 1]))) = (innB w.f).set (at') ⟨3, 1, (w.F (at')).map iN ++ [iN (x.n + 1)]⟩ by rw [show inB' (w.F (at') ++ [x.n + 1]) = ⟨3, 1, (w.F (at')).map iN ++ [iN (x.n + 1)]⟩ by rw [inB', List.map_append]; rfl]]
      exact this
    refine GRun.nil ?_
    refine rcA ?_
    refine ARun.p1 rfl rfl (pl_stFr (f := w.f) (p := (at')) (l' := (w.F (at') ++ [x.n + 1])) hpla (by simp +decide only [go_sem] <;> simp [hfta]) (by simp +decide only [go_sem] <;> simp) rfl) ?_
    have hnea : ntC w.n :: frB (w.f.set (at') (w.F (at') ++ [x.n + 1])) :: seB w.s :: toB w.t :: (innB w.f).set (at') (inB' (w.F (at') ++ [x.n + 1])) = netH (adf w (at') [x.n + 1]) := by rw [show (innB w.f).set (at') (inB' (w.F (at') ++ [x.n + 1])) = innB (w.f.set (at') (w.F (at') ++ [x.n + 1])) by rw [innB, innB, List.map_set]]; rfl
    refine goC ?_
    rw [hnea]
    exact RetH.same (vs := [.int x.n, .int ((x.n + 1 : Nat) : Int)]) (by kernel_rfl) rfl rfl
  rw [decide_eq_false h4]
  refine iff_ ?_
  refine goC ?_
  by_cases h6 : o = 6
  · rw [decide_eq_true h6]
    refine ift_ ?_
    rw [layN, if_neg h2, if_neg h3, if_neg h5, if_neg h4, if_pos h6]
    generalize hX : mor (mor x) = X at *
    obtain ⟨r, rfl⟩ : ∃ r, l = [r] := by
      unfold nodeOk at hnd
      match l, hnd with
      | [r], _ => exact ⟨r, rfl⟩
      | [], hnd => simp [h6] at hnd
      | _ :: _ :: _, hnd => simp [h6] at hnd
    rw [layS]
    have hmem : r ∈ [r] := by simp
    have hcc : cnts [r] = r.cnt := by simp [cnts]
    have hlr := hlk _ hmem X hm2
    have hir := ih _ hmem (hwl _ hmem) (htl _ hmem) X hm2 (by omega) (by omega)
    have hll := layN_len (hwl _ hmem) (htl _ hmem) hm2
    have hEr := eN_lay r X
    have hidx : ([r].map encX)[0]? = some (encX r) := rfl
    obtain ⟨o1, s1, l1⟩ := r
    rw [encX_mk] at hir hidx
    refine goC ?_
    refine ARun.q1 rfl rfl (ql_indexAddr_lst rfl rfl Try.underlying22 (by omega) (e := .agg [.int o1, str s1, .lst (l1.map encX)]) (by simpa using hidx) (by kernel_rfl)) ?_
    refine goC ?_
    refine ARun.p1 rfl rfl (pl_callA hir hll rfl (by simp +decide only [go_sem] <;> rfl) (by simp +decide only [go_sem] <;> rfl)) ?_
    refine goC ?_
    have hwn := hlr.n
    have hya := hlr.ok
    generalize layN (.mk o1 s1 l1) X = z at *
    have hEa : eN z ≤ 1000000 := by omega
    have hfla : (frE z.f).length = z.n := by rw [frE_len]; exact hya.1
    have hfta : z.f.length = z.n := hya.1
    have hpla : (x.n) < z.f.length := by omega
    have hFea : z.F (x.n) = z.f[(x.n)] := by unfold Nt.F; rw [List.getD_eq_getElem?_getD, List.getElem?_eq_getElem hpla]; rfl
    have hgFa : (frE z.f)[(x.n)]? = some (.own (x.n + 4) (z.F (x.n)).length 0 (z.F (x.n)).length) := by rw [hFea]; exact frE_get hpla
    have hgia : (innB z.f)[(x.n)]? = some (inB' (z.F (x.n))) := by rw [hFea, List.getElem?_map, List.getElem?_eq_getElem hpla]; rfl
    have hena := Nat.le_trans (eN_F z (x.n)) hEa
    with_reducible apply AWp.drawK (k := 16) [none, none, none, none, none, none, none, none, none, none, none, none, none, none, none, some 0] (fun c => match c with
      | 0 => ntC z.n :: frB z.f :: seB z.s :: toB z.t :: innB z.f
      | _ => ntC z.n :: frB z.f :: seB z.s :: toB z.t :: (innB z.f).set (x.n) (inB' (z.F (x.n) ++ [X.n, x.n + 1]))) 1 follows
    · refine ⟨rfl, rfl, by kernel_rfl, by decide, ?_, ?_⟩
      · simp +decide only [go_sem, List.map, List.take]; rfl
      · simp +decide only [go_sem, List.map, List.drop]; rfl
    · kernel_rfl
    · rfl
    refine GRun.qf1 (v := .ptr 0 1 0 0) rfl rfl (by simp +decide only [go_sem] <;> rfl) (by simp +decide only [go_sem] <;> rfl) ?_
    refine GRun.qf1 (v := .ptr 0 1 0 0) rfl rfl (by simp +decide only [go_sem] <;> rfl) (by simp +decide only [go_sem] <;> rfl) ?_
    refine GRun.qf1 (v := .ptr 0 1 0 0) rfl rfl (by simp +decide only [go_sem] <;> rfl) (by simp +decide only [go_sem] <;> rfl) ?_
    refine GRun.qf1 (v := .own 1 z.n 0 z.n) rfl rfl (by simp +decide only [go_sem] <;> rfl) (by simp +decide only [go_sem] <;> rfl) ?_
    refine GRun.qf1 (v := iN (x.n)) rfl rfl (by simp +decide only [go_sem] <;> rfl) (by simp +decide only [go_sem] <;> rfl) ?_
    refine GRun.qf1 (v := .ptr 0 1 0 0) rfl rfl (by simp +decide only [go_sem] <;> rfl) (by simp +decide only [go_sem] <;> rfl) ?_
    refine GRun.qf1 (v := .ptr 0 1 0 0) rfl rfl (by simp +decide only [go_sem] <;> rfl) (by simp +decide only [go_sem] <;> rfl) ?_
    refine GRun.qf1 (v := .ptr 0 1 0 0) rfl rfl (by simp +decide only [go_sem] <;> rfl) (by simp +decide only [go_sem] <;> rfl) ?_
    refine GRun.qf1 (v := .own 1 z.n 0 z.n) rfl rfl (by simp +decide only [go_sem] <;> rfl) (by simp +decide only [go_sem] <;> rfl) ?_
    refine GRun.qf1 (v := iN (x.n)) rfl rfl (by simp +decide only [go_sem] <;> rfl) (by simp +decide only [go_sem] <;> rfl) ?_
    refine GRun.q1 (v := .ptr 1 z.n (0 + (((x.n) : Nat) : Int).toNat) 0) rfl rfl (fun d _ => ql_indexAddr_own (k := .i64) (n := (((x.n) : Nat) : Int)) (blk := frB z.f) (by simp +decide only [go_sem] <;> rfl) (by simp +decide only [go_sem] <;> rfl) Try.underlying103 (by match d with | 0 => rfl | _ + 1 => rfl) hfla (by omega) (by omega) (by kernel_rfl)) ?_
    refine GRun.q1 (v := .own ((x.n) + 4) (z.F (x.n)).length 0 (z.F (x.n)).length) rfl rfl (fun d _ => ql_ld107 (b := 1) (tot := z.n) (i := (x.n)) (es := frE z.f) (x := .own ((x.n) + 4) (z.F (x.n)).length 0 (z.F (x.n)).length) (by simp +decide only [go_sem] <;> simp) (by match d with | 0 => rfl | _ + 1 => rfl) hfla hgFa rfl) ?_
    refine GRun.qf1 (v := iN (X.n)) rfl rfl (by simp +decide only [go_sem] <;> rfl) (by simp +decide only [go_sem] <;> rfl) ?_
    refine GRun.qf1 (v := iN (x.n + 1)) rfl rfl (by simp +decide only [go_sem] <;> rfl) (by simp +decide only [go_sem] <;> rfl) ?_
    refine GRun.q1 (v := .lst [iN (X.n), iN (x.n + 1)]) rfl rfl (fun d _ => ql_buildSlice (by decide) Try.underlying107 sz3 (by kernel_rfl) (by decide) (by (simp +decide only [List.map, go_sem] <;> rfl)) (by (simp +decide only [List.map, go_sem] <;> rfl)) rfl) ?_
    refine GRun.p1 (v := .own ((x.n) + 4) ((z.F (x.n)).length + 2) 0 ((z.F (x.n)).length + 2)) rfl rfl (fun ρ' h => ?_) ?_
    · have := pl_append (P := Try.prog) (ρ := ρ') (H := ntC z.n :: frB z.f :: seB z.s :: toB z.t :: innB z.f) (b := (x.n) + 4) (tot := (z.F (x.n)).length) (blk := inB' (z.F (x.n))) (es := [iN (X.n), iN (x.n + 1)]) ((h (.tmp 184) (by simp [Op.operands, Call.operands])).trans (by simp +decide only [go_sem] <;> rfl)) ((h (.tmp 187) (by simp [Op.operands, Call.operands])).trans (by simp +decide only [go_sem] <;> rfl)) hgia (by simp) Try.underlying107 el3 rfl rfl (by simp) (fun e he => by simp only [List.mem_cons, List.not_mem_nil, or_false] at he; rcases he with rfl | rfl <;> exact ⟨rfl, rfl⟩) (by simp; omega) (by simp; omega)
      rw [show ((innB z.f).set (x.n) (inB' (z.F (x.n) ++ [X.n, x.n + 1]))) = (innB z.f).set (x.n) ⟨3, 1, (z.F (x.n)).map iN ++ [iN (X.n), iN (x.n + 1)]⟩ by rw [show inB' (z.F (x.n) ++ [X.n, x.n + 1]) = ⟨3, 1, (z.F (x.n)).map iN ++ [iN (X.n), iN (x.n + 1)]⟩ by rw [inB', List.map_append]; rfl]]
      exact this
    refine GRun.nil ?_
    refine rcA ?_
    refine ARun.p1 rfl rfl (pl_stFr (f := z.f) (p := (x.n)) (l' := (z.F (x.n) ++ [X.n, x.n + 1])) hpla (by simp +decide only [go_sem] <;> simp [hfta]) (by simp +decide only [go_sem] <;> simp) rfl) ?_
    have hnea : ntC z.n :: frB (z.f.set (x.n) (z.F (x.n) ++ [X.n, x.n + 1])) :: seB z.s :: toB z.t :: (innB z.f).set (x.n) (inB' (z.F (x.n) ++ [X.n, x.n + 1])) = netH (adf z (x.n) [X.n, x.n + 1]) := by rw [show (innB z.f).set (x.n) (inB' (z.F (x.n) ++ [X.n, x.n + 1])) = innB (z.f.set (x.n) (z.F (x.n) ++ [X.n, x.n + 1])) by rw [innB, innB, List.map_set]]; rfl
    refine goC ?_
    refine keF [0, 6, 7, 16] ?_
    refine (show AWp Try.prog _ _ _ ⟨[(0, .ptr 0 1 0 0), (6, iN x.n), (7, iN (x.n + 1)), (16, iN (X.n + 1))], ntC z.n :: frB (z.f.set (x.n) (z.F (x.n) ++ [X.n, x.n + 1])) :: seB z.s :: toB z.t :: (innB z.f).set (x.n) (inB' (z.F (x.n) ++ [X.n, x.n + 1]))⟩ from ?_)
    rw [hnea]
    have hyb := adf_ok hya (x.n) [X.n, x.n + 1]
    have hEb : eN (adf z x.n [X.n, x.n + 1]) ≤ 1000000 := by
      have := eN_adf z x.n [X.n, x.n + 1]
      simp only [List.length_cons, List.length_nil] at this
      omega
    have hzn : (adf z x.n [X.n, x.n + 1]).n = z.n := rfl
    generalize adf z x.n [X.n, x.n + 1] = z2 at *
    have hflb : (frE z2.f).length = z2.n := by rw [frE_len]; exact hyb.1
    have hftb : z2.f.length = z2.n := hyb.1
    have hplb : (X.n + 1) < z2.f.length := by omega
    have hFeb : z2.F (X.n + 1) = z2.f[(X.n + 1)] := by unfold Nt.F; rw [List.getD_eq_getElem?_getD, List.getElem?_eq_getElem hplb]; rfl
    have hgFb : (frE z2.f)[(X.n + 1)]? = some (.own (X.n + 1 + 4) (z2.F (X.n + 1)).length 0 (z2.F (X.n + 1)).length) := by rw [hFeb]; exact frE_get hplb
    have hgib : (innB z2.f)[(X.n + 1)]? = some (inB' (z2.F (X.n + 1))) := by rw [hFeb, List.getElem?_map, List.getElem?_eq_getElem hplb]; rfl
    have henb := Nat.le_trans (eN_F z2 (X.n + 1)) hEb
    with_reducible apply AWp.drawK (k := 15) [none, none, none, none, none, none, none, none, none, none, none, none, none, none, some 0] (fun c => match c with
      | 0 => ntC z2.n :: frB z2.f :: seB z2.s :: toB z2.t :: innB z2.f
      | _ => ntC z2.n :: frB z2.f :: seB z2.s :: toB z2.t :: (innB z2.f).set (X.n + 1) (inB' (z2.F (X.n + 1) ++ [x.n]))) 1 follows
    · refine ⟨rfl, rfl, by kernel_rfl, by decide, ?_, ?_⟩
      · simp +decide only [go_sem, List.map, List.take]; rfl
      · simp +decide only [go_sem, List.map, List.drop]; rfl
    · kernel_rfl
    · rfl
    refine GRun.qf1 (v := .ptr 0 1 0 0) rfl rfl (by simp +decide only [go_sem] <;> rfl) (by simp +decide only [go_sem] <;> rfl) ?_
    refine GRun.qf1 (v := .ptr 0 1 0 0) rfl rfl (by simp +decide only [go_sem] <;> rfl) (by simp +decide only [go_sem] <;> rfl) ?_
    refine GRun.qf1 (v := .ptr 0 1 0 0) rfl rfl (by simp +decide only [go_sem] <;> rfl) (by simp +decide only [go_sem] <;> rfl) ?_
    refine GRun.qf1 (v := .own 1 z2.n 0 z2.n) rfl rfl (by simp +decide only [go_sem] <;> rfl) (by simp +decide only [go_sem] <;> rfl) ?_
    refine GRun.qf1 (v := iN (X.n + 1)) rfl rfl (by simp +decide only [go_sem] <;> rfl) (by simp +decide only [go_sem] <;> rfl) ?_
    refine GRun.qf1 (v := .ptr 0 1 0 0) rfl rfl (by simp +decide only [go_sem] <;> rfl) (by simp +decide only [go_sem] <;> rfl) ?_
    refine GRun.qf1 (v := .ptr 0 1 0 0) rfl rfl (by simp +decide only [go_sem] <;> rfl) (by simp +decide only [go_sem] <;> rfl) ?_
    refine GRun.qf1 (v := .ptr 0 1 0 0) rfl rfl (by simp +decide only [go_sem] <;> rfl) (by simp +decide only [go_sem] <;> rfl) ?_
    refine GRun.qf1 (v := .own 1 z2.n 0 z2.n) rfl rfl (by simp +decide only [go_sem] <;> rfl) (by simp +decide only [go_sem] <;> rfl) ?_
    refine GRun.qf1 (v := iN (X.n + 1)) rfl rfl (by simp +decide only [go_sem] <;> rfl) (by simp +decide only [go_sem] <;> rfl) ?_
    refine GRun.q1 (v := .ptr 1 z2.n (0 + (((X.n + 1) : Nat) : Int).toNat) 0) rfl rfl (fun d _ => ql_indexAddr_own (k := .i64) (n := (((X.n + 1) : Nat) : Int)) (blk := frB z2.f) (by simp +decide only [go_sem] <;> rfl) (by simp +decide only [go_sem] <;> rfl) Try.underlying103 (by match d with | 0 => rfl | _ + 1 => rfl) hflb (by omega) (by omega) (by kernel_rfl)) ?_
    refine GRun.q1 (v := .own ((X.n + 1) + 4) (z2.F (X.n + 1)).length 0 (z2.F (X.n + 1)).length) rfl rfl (fun d _ => ql_ld107 (b := 1) (tot := z2.n) (i := (X.n + 1)) (es := frE z2.f) (x := .own ((X.n + 1) + 4) (z2.F (X.n + 1)).length 0 (z2.F (X.n + 1)).length) (by simp +decide only [go_sem] <;> simp) (by match d with | 0 => rfl | _ + 1 => rfl) hflb hgFb rfl) ?_
    refine GRun.qf1 (v := iN (x.n)) rfl rfl (by simp +decide only [go_sem] <;> rfl) (by simp +decide only [go_sem] <;> rfl) ?_
    refine GRun.q1 (v := .lst [iN (x.n)]) rfl rfl (fun d _ => ql_buildSlice (by decide) Try.underlying107 sz3 (by kernel_rfl) (by decide) (by (simp +decide only [List.map, go_sem] <;> rfl)) (by (simp +decide only [List.map, go_sem] <;> rfl)) rfl) ?_
    refine GRun.p1 (v := .own ((X.n + 1) + 4) ((z2.F (X.n + 1)).length + 1) 0 ((z2.F (X.n + 1)).length + 1)) rfl rfl (fun ρ' h => ?_) ?_
    · have := pl_append (P := Try.prog) (ρ := ρ') (H := ntC z2.n :: frB z2.f :: seB z2.s :: toB z2.t :: innB z2.f) (b := (X.n + 1) + 4) (tot := (z2.F (X.n + 1)).length) (blk := inB' (z2.F (X.n + 1))) (es := [iN (x.n)]) ((h (.tmp 201) (by simp [Op.operands, Call.operands])).trans (by simp +decide only [go_sem] <;> rfl)) ((h (.tmp 203) (by simp [Op.operands, Call.operands])).trans (by simp +decide only [go_sem] <;> rfl)) hgib (by simp) Try.underlying107 el3 rfl rfl (by simp) (fun e he => by simp only [List.mem_cons, List.not_mem_nil, or_false] at he; subst he; exact ⟨rfl, rfl⟩) (by simp; omega) (by simp; omega)
      rw [show ((innB z2.f).set (X.n + 1) (inB' (z2.F (X.n + 1) ++ [x.n]))) = (innB z2.f).set (X.n + 1) ⟨3, 1, (z2.F (X.n + 1)).map iN ++ [iN (x.n)]⟩ by rw [show inB' (z2.F (X.n + 1) ++ [x.n]) = ⟨3, 1, (z2.F (X.n + 1)).map iN ++ [iN (x.n)]⟩ by rw [inB', List.map_append]; rfl]]
      exact this
    refine GRun.nil ?_
    refine rcA ?_
    refine ARun.p1 rfl rfl (pl_stFr (f := z2.f) (p := (X.n + 1)) (l' := (z2.F (X.n + 1) ++ [x.n])) hplb (by simp +decide only [go_sem] <;> simp [hftb]) (by simp +decide only [go_sem] <;> simp) rfl) ?_
    have hneb : ntC z2.n :: frB (z2.f.set (X.n + 1) (z2.F (X.n + 1) ++ [x.n])) :: seB z2.s :: toB z2.t :: (innB z2.f).set (X.n + 1) (inB' (z2.F (X.n + 1) ++ [x.n])) = netH (adf z2 (X.n + 1) [x.n]) := by rw [show (innB z2.f).set (X.n + 1) (inB' (z2.F (X.n + 1) ++ [x.n])) = innB (z2.f.set (X.n + 1) (z2.F (X.n + 1) ++ [x.n])) by rw [innB, innB, List.map_set]]; rfl
    refine goC ?_
    rw [hneb]
    exact RetH.same (vs := [.int x.n, .int ((x.n + 1 : Nat) : Int)]) (by kernel_rfl) rfl rfl
  rw [decide_eq_false h6]
  refine iff_ ?_
  refine goC ?_
  rw [layN, if_neg h2, if_neg h3, if_neg h5, if_neg h4, if_neg h6]
  exact RetH.same (vs := [.int x.n, .int ((x.n + 1 : Nat) : Int)]) (by kernel_rfl) rfl rfl
end Go.Ab
