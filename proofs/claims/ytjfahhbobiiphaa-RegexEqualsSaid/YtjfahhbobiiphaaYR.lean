/- Part of the proof. -/
import Derived.Test.YtjfahhbobiiphaaYP
import Derived.Test.YtjfahhbobiiphaaYQ
import Derived.Test.YtjfahhbobiiphaaAbP
set_option linter.unusedSimpArgs false
set_option linter.unusedVariables false
set_option maxHeartbeats 4000000
namespace Go.Ab
open Go Go.Ab Go.Proofs Go.Ab.Ty

theorem ql_mG {H : List ABlk} {ρ : Operand → AV} {x : Operand} {G : List Int} {rows : List (List Nat)} {acs : List Bool} {c : Nat} (hx : ρ x = .iptr (mkA G rows acs) c) (hc : c < G.length) : QL Try.prog H ρ (.load 3 x) (.int (G.getD c 0)) := by
  refine ql_fun1 ?_
  have h : (G.map AV.int ++ [.lst (rows.map nL), lB acs])[c]? = some (.int (G.getD c 0)) := by
    rw [List.getElem?_append_left (by simpa using hc), List.getElem?_map, List.getElem?_eq_getElem hc, List.getD_eq_getElem?_getD, List.getElem?_eq_getElem hc]; rfl
  simp only [qfun, hx, agg3, sz3, ldE, AV.cells, mkA, h]
theorem ql_ixGi {H : List ABlk} {ρ : Operand → AV} {x y : Operand} {e : AV} {k : Nat} (hx : ρ x = .iptr e 0) (hy : ρ y = .int k) (h : k < 95) : QL Try.prog H ρ (.indexAddr 102 x y) (.iptr e k) := by
  have := ql_indexAddr_iptr (P := Try.prog) (H := H) (ρ := ρ) (t := 102) (x := x) (i := y) (k := .i64) (n := (k : Int)) (off := 0) (len := 95) (sz := 1) (el := 3) hx hy Try.underlying102 (by omega) (by omega) sz3
  simpa using this
theorem step_ok (m : Mk) (hm : MkW m) (p c : Nat) (hp : p < m.2.1.length) (hc : c < 95) : Fn Try.prog 82 [encMk m, .int p, .int c] (.int (stepN m.1 m.2.1 p c)) := by
  obtain ⟨h1, h2⟩ := hm.g hp hc
  have hgl := hm.gl
  obtain ⟨G, rows, acs⟩ := m
  unfold stepN
  unfold encMk
  simp only at h1 h2 hgl hp ⊢
  refine Fn.intro' [(0, .iptr (mkA G rows acs) 0), (1, .int p), (2, .int c)] 3 22 Try.func82 (by kernel_rfl) rfl rfl rfl rfl rfl ?_
  have hml : (rows.map nL).length = rows.length := List.length_map _
  obtain ⟨g, hg⟩ : ∃ g : Nat, G[c]? = some (g : Int) := ⟨_, h2⟩
  have hgd : G.getD c 0 = (g : Int) := (List.getD_eq_getElem?_getD ..).trans (by rw [hg]; rfl)
  rw [hgd] at h1 h2 ⊢
  simp only [Int.toNat_natCast] at h1 h2 ⊢
  refine goB ?_
  have h95 := (mcM_95 hgl (.lst (rows.map nL)) (lB acs)).1
  refine drA (k := 15) follows (hr := ?_)
  refine goB ?_
  rw [h95]
  refine rcA ?_
  refine ARun.q1 rfl rfl (ql_ixGi (by simp +decide only [go_sem] <;> rfl) (by simp +decide only [go_sem] <;> rfl) hc) ?_
  refine ARun.q1 rfl rfl (ql_mG (by simp +decide only [go_sem] <;> rfl) (by omega)) ?_
  rw [hgd]
  have hnr : nth default rows (p : Int) = rows.getD p [] := by rw [nth_eq hp, List.getD_eq_getElem?_getD, List.getElem?_eq_getElem hp]; rfl
  rw [hnr]
  generalize rows.getD p [] = row at *
  refine goB ?_
  rw [nthN h1]
  exact Ret.data rfl rfl (.base _)
noncomputable def loR (r : Rx) : Option Mk := (madeR r).bind leastR
theorem encMd_none : encMd none = .tup [.base (.pointer none), .bool false] := rfl
theorem encMd_some (m : Mk) : encMd (some m) = .tup [encMk m, .bool true] := rfl
open Classical in
noncomputable def encLo (r : Rx) : AV := if r.valid then (match loR r with
  | some m => .tup [encMk m, .int 0]
  | none => .tup [.base (.pointer none), .int 2]) else .tup [.base (.pointer none), .int 4]
open Classical in
theorem leastOf_ok (r : Rx) (hok : r.ok) (hc : r.cnt ≤ 1000000000) : Fn Try.prog 81 [encX r] (encLo r) := by
  have i1 := valid_ok r hok hc
  have h1 : r.valid → Fn Try.prog 111 [encX r] (encMd (madeR r)) := fun h => by
    obtain ⟨⟨hcn, _⟩, hw⟩ := h
    have hl := lvs_cnt r
    obtain ⟨⟨t, e1, e2, e3, e4⟩, e5⟩ := spA_ok r hw (by omega) []
    rw [List.nil_append] at e1 e4
    refine made_ok r hok hw (by omega) ?_ ?_ ?_
    · rw [e1]; omega
    · rw [e1]; intro c hc
      obtain ⟨L, hL⟩ := e3 c hc
      have := hL.h63; have := hL.bf; omega
    · intro hb; rw [e1]; exact (e4 hb).1
  have h2 : r.valid → ∀ m, madeR r = some m → Fn Try.prog 112 [encMk m] (encMd (leastR m)) := fun h m hm => by
    obtain ⟨⟨hcn, _⟩, hw⟩ := h
    have hl := lvs_cnt r
    obtain ⟨k1, k2, k3⟩ := madeR_ok hw (by omega) hm
    have k4 := k1.w
    obtain ⟨G, rows, acs⟩ := m
    exact least_ok G rows acs k4.gl k4.pos k3 k4.al k4.wd k4.lt
  unfold encLo loR
  obtain ⟨o, s, l⟩ := r
  rw [encX_mk] at *
  refine Fn.intro' [(0, .agg [.int o, str s, .lst (l.map encX)])] 1 23 Try.func81 (by kernel_rfl) rfl rfl rfl rfl rfl ?_
  refine goB ?_
  refine callA (i1) ?_
  refine goB ?_
  by_cases hv : (Rx.mk o s l).valid
  · rw [show (!decide (Rx.mk o s l).valid) = false by simp [hv]]
    refine iff_ ?_
    rw [if_pos hv]
    have j1 := h1 hv
    have j2 := h2 hv
    rcases hm : madeR (.mk o s l) with _ | m
    · rw [hm, encMd_none] at j1
      simp only [Option.bind_none]
      refine goB ?_
      refine callA (j1) ?_
      refine goB ?_
      refine iff_ ?_
      refine goB ?_
      refine ift_ ?_
      refine goB ?_
      exact Ret.data rfl rfl (.tup fun c hc => by
        simp only [List.mem_cons, List.not_mem_nil, or_false] at hc
        rcases hc with rfl | rfl <;> exact .base _)
    · have j3 := j2 m hm
      rw [hm, encMd_some] at j1
      simp only [Option.bind_some]
      obtain ⟨G, rows, acs⟩ := m
      simp only [encMk] at j1 j3
      refine goB ?_
      refine callA (j1) ?_
      refine goB ?_
      refine ift_ ?_
      refine goB ?_
      rcases hl : leastR (G, rows, acs) with _ | m2
      · rw [hl, encMd_none] at j3
        refine callA (j3) ?_
        refine goB ?_
        refine ift_ ?_
        refine goB ?_
        exact Ret.data rfl rfl (.tup fun c hc => by
          simp only [List.mem_cons, List.not_mem_nil, or_false] at hc
          rcases hc with rfl | rfl <;> exact .base _)
      · rw [hl, encMd_some] at j3
        obtain ⟨G2, rows2, acs2⟩ := m2
        simp only [encMk] at j3 ⊢
        refine callA (j3) ?_
        refine goB ?_
        refine iff_ ?_
        refine goB ?_
        exact Ret.data rfl rfl (.tup fun c hc => by
          simp only [List.mem_cons, List.not_mem_nil, or_false] at hc
          rcases hc with rfl | rfl
          · exact Pu_mk _ _ _
          · exact .base _)
  · rw [show (!decide (Rx.mk o s l).valid) = true by simp [hv]]
    refine ift_ ?_
    rw [if_neg hv]
    refine goB ?_
    exact Ret.data rfl rfl (.tup fun c hc => by
      simp only [List.mem_cons, List.not_mem_nil, or_false] at hc
      rcases hc with rfl | rfl <;> exact .base _)
end Go.Ab
set_option maxHeartbeats 4000000
namespace Go.Ab
open Go Go.Ab Go.Proofs Go.Ab.Ty

theorem loR_ok {r : Rx} (hv : r.valid) {m : Mk} (h : loR r = some m) : MkOk (lng r) m ∧ Lm (lng r) m.2.1.length (stM m) (acR m.2.2) ∧ m.2.1.length ≤ 200 := by
  obtain ⟨⟨hcn, _⟩, hw⟩ := hv
  have hl := lvs_cnt r
  unfold loR at h
  rcases hm : madeR r with _ | m0
  · rw [hm] at h; cases h
  · rw [hm] at h
    obtain ⟨h1, h2, h3⟩ := madeR_ok hw (by omega) hm
    exact leastR_ok h1 h
def allE (m n : Mk) : List (Nat × Nat) := (xsE m n (m.2.1.length * n.2.1.length)).1
open Classical in
noncomputable def eqV (a b : Rx) : Bool × Int :=
  if a.valid ∧ b.valid then (match loR a, loR b with
    | some m, some n => (decide (∀ p ∈ allE m n, agr m n p), 0)
    | _, _ => (false, 2)) else (false, 4)
theorem eqV_ok {a b : Rx} (ha : a.valid) (hb : b.valid) (h : (eqV a b).2 = 0) : (eqV a b).1 = true ↔ ∀ w, lng a w ↔ lng b w := by
  unfold eqV at h ⊢
  rw [if_pos ⟨ha, hb⟩] at h ⊢
  rcases h1 : loR a with _ | m
  · rw [h1] at h; cases h
  rcases h2 : loR b with _ | n
  · rw [h1, h2] at h; cases h
  obtain ⟨k1, k2, _⟩ := loR_ok ha h1
  obtain ⟨l1, l2, _⟩ := loR_ok hb h2
  simp only [decide_eq_true_eq]
  exact agr_lang k2.toRd l2.toRd (xsE_len k1.w l1.w _)
def smM (l : List (Nat × Nat)) : List ((Int × Int) × Bool) := l.map fun p => (((p.1 : Int), (p.2 : Int)), true)
theorem smM_get (p : Nat × Nat) : ∀ l : List (Nat × Nat), getM (smM l) ((p.1 : Int), (p.2 : Int)) = if p ∈ l then some true else none
  | [] => by simp [smM, getM]
  | q :: l => by
    have ih := smM_get p l
    unfold smM at ih ⊢
    rw [List.map_cons, getM, ih]
    obtain ⟨p1, p2⟩ := p
    obtain ⟨q1, q2⟩ := q
    by_cases h : (q1, q2) = (p1, p2)
    · simp only [Prod.mk.injEq] at h
      obtain ⟨rfl, rfl⟩ := h
      simp
    · have h' : ¬ (((q1 : Int), (q2 : Int)) = ((p1 : Int), (p2 : Int))) := fun e => h (by
        simp only [Prod.mk.injEq] at e
        exact Prod.ext (by omega) (by omega))
      rw [if_neg h']
      have h2 : ((p1, p2) ∈ (q1, q2) :: l) ↔ (p1, p2) ∈ l := by
        rw [List.mem_cons]
        exact ⟨fun h3 => h3.resolve_left fun e => h e.symm, .inr⟩
      simp only [h2]
theorem smM_new {l : List (Nat × Nat)} {p : Nat × Nat} (h : ¬ p ∈ l) : setM (smM l) ((p.1 : Int), (p.2 : Int)) true = smM (l ++ [p]) := by
  rw [setM_none _ _ _ (by rw [smM_get, if_neg h])]
  simp [smM]
theorem key43 : KeyRun Try.prog 43 enc2 := keyRun2 Try.underlying43 Try.underlying3 (fun w => Try.sizeOf3 w) (fun w => Try.isAgg3 w)
theorem ql_ix2 {H : List ABlk} {ρ : Operand → AV} {x y : Operand} {b tot i0 off k : Nat} (hx : ρ x = .ptr b tot i0 off) (hf : fresh H b tot = true) (hy : ρ y = .int k) (h : k < 2) : QL Try.prog H ρ (.indexAddr 43 x y) (.ptr b tot i0 (off + k)) := by
  have := ql_indexAddr_ptr (P := Try.prog) (H := H) (ρ := ρ) (t := 43) (x := x) (i := y) (k := .i64) (n := (k : Int)) (b := b) (tot := tot) (i0 := i0) (off := off) (len := 2) (sz := 1) (el := 3) hx hf hy Try.underlying43 (by omega) (by omega) sz3
  simpa using this
instance : OfNat (Nat × Nat) 0 := ⟨(0, 0)⟩
abbrev smB (l : List (Nat × Nat)) : ABlk := mapB enc2 AV.bool (smM l)
abbrev quB (l : List (Nat × Nat)) : ABlk := ⟨43, 2, l.map encP⟩
theorem PuB_smB (l : List (Nat × Nat)) : ∀ e ∈ (smB l).es, ∀ c ∈ e.cells, Pu c := fun e he c hc => by
  simp only [smB, mapB, List.mem_singleton] at he; subst he
  simp only [AV.cells, List.mem_cons, List.not_mem_nil, or_false] at hc
  rcases hc with rfl | rfl
  · exact .agg fun c hc => by
      obtain ⟨x, _, rfl⟩ := List.mem_map.1 hc
      exact .base _
  · exact .agg fun c hc => by
      obtain ⟨x, _, rfl⟩ := List.mem_map.1 hc
      exact .base _
theorem PuB_quB (l : List (Nat × Nat)) : ∀ e ∈ (quB l).es, ∀ c ∈ e.cells, Pu c := fun e he c hc => by
  obtain ⟨x, _, rfl⟩ := List.mem_map.1 he
  exact Pu_cP x c hc
open Classical in
theorem equal_ok2 (a b : Rx) (ha : a.ok) (hb : b.ok) (hca : a.cnt ≤ 1000000000) (hcb : b.cnt ≤ 1000000000) : Fn Try.prog 43 [encX a, encX b] (.tup [.bool (eqV a b).1, .int (eqV a b).2]) := by
  have ia := valid_ok a ha hca
  have ib := valid_ok b hb hcb
  have ja := leastOf_ok a ha hca
  have jb := leastOf_ok b hb hcb
  have hla := fun hv m h => loR_ok (r := a) hv (m := m) h
  have hlb := fun hv m h => loR_ok (r := b) hv (m := m) h
  unfold eqV
  unfold encLo at ja jb
  obtain ⟨o, s, l⟩ := a
  obtain ⟨o', s', l'⟩ := b
  simp only [encX_mk] at ia ib ja jb ⊢
  refine Fn.intro' [(0, .agg [.int o, str s, .lst (l.map encX)]), (1, .agg [.int o', str s', .lst (l'.map encX)])] 2 97 Try.func43 (by kernel_rfl) rfl rfl rfl rfl rfl ?_
  refine goB ?_
  refine callA (ia) ?_
  refine goB ?_
  refine gcallA (i := fun hg => ib) (hr := ?_)
  refine goB ?_
  by_cases hv : (Rx.mk o s l).valid ∧ (Rx.mk o' s' l').valid
  · obtain ⟨hv1, hv2⟩ := hv
    rw [if_pos ⟨hv1, hv2⟩]
    rw [if_pos hv1] at ja
    rw [if_pos hv2] at jb
    simp only [hv1, hv2, decide_true, Bool.not_true]
    refine iff_ ?_
    have pd : ∀ (x : Bool) (y : Int), Pu (.tup [.bool x, .int y]) := fun x y => .tup fun c hc => by
      simp only [List.mem_cons, List.not_mem_nil, or_false] at hc
      rcases hc with rfl | rfl <;> exact .base _
    rcases h1 : loR (.mk o s l) with _ | m
    · rw [h1] at ja
      simp only at ja ⊢
      rcases h2 : loR (.mk o' s' l') with _ | n
      · rw [h2] at jb
        simp only at jb ⊢
        refine goB ?_
        refine callA (ja) ?_
        refine goB ?_
        refine callA (jb) ?_
        refine goB ?_
        refine ift_ ?_
        refine goB ?_
        exact Ret.data rfl rfl (pd _ _)
      · rw [h2] at jb
        obtain ⟨G2, rows2, acs2⟩ := n
        simp only [encMk] at jb ⊢
        refine goB ?_
        refine callA (ja) ?_
        refine goB ?_
        refine callA (jb) ?_
        refine goB ?_
        refine ift_ ?_
        refine goB ?_
        exact Ret.data rfl rfl (pd _ _)
    obtain ⟨k1, k2, k3⟩ := hla hv1 m h1
    rw [h1] at ja
    rcases h2 : loR (.mk o' s' l') with _ | n
    · rw [h2] at jb
      obtain ⟨G, rows, acs⟩ := m
      simp only [encMk] at ja jb ⊢
      refine goB ?_
      refine callA (ja) ?_
      refine goB ?_
      refine callA (jb) ?_
      refine goB ?_
      refine ift_ ?_
      refine goB ?_
      exact Ret.data rfl rfl (pd _ _)
    obtain ⟨l1, l2, l3⟩ := hlb hv2 n h2
    rw [h2] at jb
    have k4 := k1.w
    have l4 := l1.w
    clear hla hlb k1 l1 k2 l2 h1 h2 ia ib
    have hs1 := fun p c hp hc => step_ok m k4 p c hp hc
    have hs2 := fun p c hp hc => step_ok n l4 p c hp hc
    have hxl := xsE_lt k4 l4
    have hxn := xsE_len k4 l4
    have hpr : m.2.1.length * n.2.1.length ≤ 40000 := Nat.mul_le_mul k3 l3
    have hfin : ∀ k, (xsE m n k).1.length = k → (xsE m n k).1 = allE m n := fun k hk => by
      have h1 := hxn k
      unfold allE xsE
      rw [← xs_stop (k := k) (by unfold xsE at hk; omega) (m.2.1.length * n.2.1.length - k)]
      congr 2; unfold xsE at hk h1; omega
    have hpre : ∀ k, ∀ p ∈ (xsE m n k).1, p ∈ allE m n := fun k p hp => by
      rcases Nat.le_total k (m.2.1.length * n.2.1.length) with hk | hk
      · obtain ⟨d, hd⟩ := Nat.exists_eq_add_of_le hk
        obtain ⟨t, ht⟩ := xs_pre (dE m n) (List.range 95) (0, 0) k d
        unfold allE xsE
        rw [hd, ht]
        exact List.mem_append_left _ hp
      · have h1 := hxn (m.2.1.length * n.2.1.length)
        unfold allE xsE
        rw [← xs_stop h1 (k - m.2.1.length * n.2.1.length), Nat.add_sub_cancel' hk]
        exact hp
    obtain ⟨G, rows, acs⟩ := m
    obtain ⟨G2, rows2, acs2⟩ := n
    unfold encMk at ja jb hs1 hs2
    simp only at ja jb hs1 hs2 ⊢
    refine goB ?_
    refine callA (ja) ?_
    refine goB ?_
    refine callA (jb) ?_
    refine goB ?_
    refine iff_ ?_
    refine AWp.weaken (Wk.tf (E2 := [(6, .iptr (mkA G rows acs) 0), (8, .iptr (mkA G2 rows2 acs2) 0)]) (H2 := []) 0 (pubB .nil)) ?_
    refine goB ?_
    refine ARun.p1 rfl rfl (pl_makeMap enc2 AV.bool) ?_
    refine rcA ?_
    refine ARun.q1 rfl rfl (ql_buildA Try.underlying43 sz3 zero43 (by simp +decide only [go_sem, placesA_2, List.map] <;> rfl)) ?_
    refine ARun.p1 rfl rfl (pl_insert2 enc2 AV.bool (0, 0) true (by simp +decide only [go_sem] <;> rfl) (by simp +decide only [go_sem] <;> rfl) VR.pair (by simp +decide only [go_sem] <;> rfl) rfl Try.underlying101 key43) ?_
    rw [show setM ([] : List ((Int × Int) × Bool)) (0, 0) true = smM [(0, 0)] from rfl]
    refine goB ?_
    refine ARun.q1 rfl rfl (ql_buildA Try.underlying43 sz3 zero43 (by simp +decide only [go_sem, placesA_2, List.map] <;> rfl)) ?_
    refine ARun.p1 rfl rfl (pl_buildSlice (es := [encP (0, 0)]) (by decide) Try.underlying40 sz43 (by kernel_rfl) (by decide) (by simp +decide only [go_sem] <;> rfl) (by simp +decide only [go_sem] <;> rfl) rfl) ?_
    refine goB ?_
    refine AWp.weaken (Wk.tf (E2 := [(6, .iptr (mkA G rows acs) 0), (8, .iptr (mkA G2 rows2 acs2) 0), (10, .mapv 0), (11, .own 1 1 0 1), (12, .int 0)]) (H2 := [smB [(0, 0)], quB [(0, 0)]]) 2 (pubB (.cons (PuB_smB _) (.cons (PuB_quB _) .nil)))) ?_
    have hX0 : (xsE (G, rows, acs) (G2, rows2, acs2) 0).1 = [(0, 0)] := rfl
    have hns : ∀ k s, (xsE (G, rows, acs) (G2, rows2, acs2) k).1[k]? = some s → (xsE (G, rows, acs) (G2, rows2, acs2) (k + 1)).1 = (rowX (dE (G, rows, acs) (G2, rows2, acs2) s) (List.range 95) (xsE (G, rows, acs) (G2, rows2, acs2) k).1 []).1 := fun k s h => by
      unfold xsE at h ⊢; rw [xs_some h]
    have hdE : ∀ s c, dE (G, rows, acs) (G2, rows2, acs2) s c = (stepN G rows s.1 c, stepN G2 rows2 s.2 c) := fun s c => rfl
    have hagr : ∀ p, agr (G, rows, acs) (G2, rows2, acs2) p ↔ acR acs p.1 = acR acs2 p.2 := fun p => Iff.rfl
    simp only [hagr]
    have hal := k4.al
    have h96 := (mcM_95 (G := G) k4.gl (.lst (rows.map nL)) (lB acs)).2
    have h96' := (mcM_95 (G := G2) l4.gl (.lst (rows2.map nL)) (lB acs2)).2
    have hal2 := l4.al
    simp only at hxl hxn hpr k3 l3 hal hal2
    generalize dE (G, rows, acs) (G2, rows2, acs2) = δ at *
    generalize allE (G, rows, acs) (G2, rows2, acs2) = al at *
    generalize xsE (G, rows, acs) (G2, rows2, acs2) = X at *
    refine AWp.loop (J := fun k : Nat => k ≤ (X k).1.length ∧ ∀ i p, i < k → (X k).1[i]? = some p → acR acs p.1 = acR acs2 p.2)
      (fun k => ⟨[(6, .iptr (mkA G rows acs) 0), (8, .iptr (mkA G2 rows2 acs2) 0), (10, .mapv 0), (11, .own 1 (X k).1.length 0 (X k).1.length), (12, .int k)], [smB (X k).1, quB (X k).1]⟩) (fun k => 40001 - k) 0 ⟨Nat.zero_le _, fun i p h => by omega⟩ (by rw [hX0]; exact .wf) ?_
    rintro k ⟨hk, hag⟩
    have hns := hns k
    have hxl := hxl k
    have hxn := hxn k
    have hfin := hfin k
    have hpre := hpre k
    have hml : ∀ l : List (Nat × Nat), (l.map encP).length = l.length := fun l => List.length_map _
    generalize hA : (X k).1 = A at *
    have hxn2 : A.length ≤ 40000 := by omega
    refine goB ?_
    refine ifA (fun hc => ?_) (fun hc => ?_)
    · simp at hc
      have hc : k < A.length := by omega
      obtain ⟨hp1, hp2⟩ := hxl _ (List.getElem_mem hc)
      have hns := hns _ (List.getElem?_eq_getElem hc)
      have hnk : nth 0 A (k : Int) = A[k] := nth_eq hc
      have hmem : A[k] ∈ A := List.getElem_mem hc
      have hAk : A[k]? = some A[k] := List.getElem?_eq_getElem hc
      generalize A[k] = pq at *
      obtain ⟨p, q⟩ := pq
      simp only at hp1 hp2
      refine goB ?_
      rw [hnk]
      refine keF [6, 8, 10, 11, 12, 13] ?_
      refine (show AWp Try.prog _ _ _ ⟨[(6, .iptr (mkA G rows acs) 0), (8, .iptr (mkA G2 rows2 acs2) 0), (10, .mapv 0), (11, .own 1 A.length 0 A.length), (12, .int k), (13, .ptr 2 1 0 0)], [smB A, quB A, ⟨43, 2, [.agg [.int p, .int q]]⟩]⟩ from ?_)
      refine drA (k := 17) follows (hr := ?_)
      refine goB ?_
      rw [h96]
      refine ARun.q1 rfl rfl (ql_ix2 (k := 0) (off := 0) (by simp +decide only [go_sem] <;> rfl) rfl rfl (by decide)) ?_
      refine ARun.q1 rfl rfl (ql_fun (v := .int p) (by simp +decide only [go_sem] <;> rfl)) ?_
      refine rcA ?_
      rw [h96']
      refine ARun.q1 rfl rfl (ql_ix2 (k := 1) (off := 0) (by simp +decide only [go_sem] <;> rfl) rfl rfl (by decide)) ?_
      refine rcA ?_
      rw [nth_at (acs := acs) (k := p) (by omega), nth_at (acs := acs2) (k := q) (by omega)]
      refine goB ?_
      by_cases hne : acR acs p = acR acs2 q
      · rw [show (!decide (acR acs p = acR acs2 q)) = false by simp [hne]]
        refine iff_ ?_
        refine AWp.skip (z1 ?_)
        refine keF [6, 8, 10, 11, 12, 13] ?_
        generalize hR : (fun c => (rowX (δ (p, q)) ((List.range 95).take c) A []).1) = R
        have hR0 : R 0 = A := by rw [← hR]; rfl
        have hR95 : R 95 = (X (k + 1)).1 := by rw [← hR, hns]; rfl
        have hRs : ∀ c, c < 95 → R (c + 1) = addN (R c) (stepN G rows p c, stepN G2 rows2 q c) := fun c hc => by
          rw [← hR]; simp only
          rw [List.take_succ_eq_append_getElem (by simpa using hc), rowX_snoc']
          simp only [List.getElem_range, hdE]
        have hRl : ∀ c, c ≤ 95 → (R c).length ≤ 40095 := fun c hc => by
          have := rowX_len (δ (p, q)) A c ((List.range 95).take c) (by simp; omega)
          rw [← hR]; simp only; omega
        refine goB ?_
        refine AWp.loop (J := fun c : Nat => c ≤ 95) (fun c => ⟨[(72, .int c), (6, .iptr (mkA G rows acs) 0), (8, .iptr (mkA G2 rows2 acs2) 0), (10, .mapv 0), (11, .own 1 (R c).length 0 (R c).length), (12, .int k), (13, .ptr 2 1 0 0)], [smB (R c), quB (R c), ⟨43, 2, [.agg [.int p, .int q]]⟩]⟩) (fun c => 95 - c) 0 (Nat.zero_le _) (by rw [hR0]; exact .wf) ?_
        intro c hcl
        have hRs := hRs c
        have hRl := hRl c hcl
        have hi1 := hs1 p c hp1
        have hi2 := hs2 q c hp2
        generalize hRc : R c = B at *
        refine goB ?_
        refine ifA (fun hc2 => ?_) (fun hc2 => ?_)
        · simp at hc2
          have hc2 : c < 95 := by omega
          have hRs := hRs hc2
          have hi1 := hi1 hc2
          have hi2 := hi2 hc2
          generalize stepN G rows p c = x at *
          generalize stepN G2 rows2 q c = y at *
          refine goB ?_
          with_reducible apply AWp.drawK (k := 12) [none, none, none, none, none, none, none, none, none, none, none, some 0] (fun c => match c with
            | 0 => [smB B, quB B, ⟨43, 2, [.agg [.int p, .int q]]⟩]
            | _ => [smB B, quB B, ⟨43, 2, [.agg [.int p, .int q]]⟩, ⟨43, 2, [.agg [.base (.int .i64 0), .base (.int .i64 0)]]⟩]) 1 follows
          · refine ⟨rfl, rfl, by kernel_rfl, by decide, ?_, ?_⟩
            · simp +decide only [go_sem, List.map, List.take]; rfl
            · simp +decide only [go_sem, List.map, List.drop]; rfl
          · kernel_rfl
          · rfl
          refine GRun.qf1 (v := .iptr (mkA G rows acs) 0) rfl rfl (by simp +decide only [go_sem] <;> rfl) (by simp +decide only [go_sem] <;> rfl) ?_
          refine GRun.q1 (v := .ptr 2 1 0 0) rfl rfl (fun d _ => ql_ix2 (k := 0) (off := 0) (by simp +decide only [go_sem] <;> rfl) (by match d with | 0 => rfl | _ + 1 => rfl) rfl (by decide)) ?_
          refine GRun.qf1 (v := .int p) rfl rfl (by simp +decide only [go_sem] <;> rfl) (by simp +decide only [go_sem] <;> rfl) ?_
          refine GRun.qf1 (v := .int c) rfl rfl (by simp +decide only [go_sem] <;> rfl) (by simp +decide only [go_sem] <;> rfl) ?_
          refine GRun.q1 (v := .int x) rfl rfl (fun d _ => ql_callC hi1 rfl (by simp +decide only [go_sem] <;> rfl) (by simp +decide only [go_sem, List.map] <;> rfl) (by simp)) ?_
          refine GRun.qf1 (v := .iptr (mkA G2 rows2 acs2) 0) rfl rfl (by simp +decide only [go_sem] <;> rfl) (by simp +decide only [go_sem] <;> rfl) ?_
          refine GRun.q1 (v := .ptr 2 1 0 1) rfl rfl (fun d _ => ql_ix2 (k := 1) (off := 0) (by simp +decide only [go_sem] <;> rfl) (by match d with | 0 => rfl | _ + 1 => rfl) rfl (by decide)) ?_
          refine GRun.qf1 (v := .int q) rfl rfl (by simp +decide only [go_sem] <;> rfl) (by simp +decide only [go_sem] <;> rfl) ?_
          refine GRun.qf1 (v := .int c) rfl rfl (by simp +decide only [go_sem] <;> rfl) (by simp +decide only [go_sem] <;> rfl) ?_
          refine GRun.q1 (v := .int y) rfl rfl (fun d _ => ql_callC hi2 rfl (by simp +decide only [go_sem] <;> rfl) (by simp +decide only [go_sem, List.map] <;> rfl) (by simp)) ?_
          refine GRun.q1 (v := .agg [.int x, .int y]) rfl rfl (fun d _ => ql_buildA Try.underlying43 sz3 zero43 (by simp +decide only [go_sem, placesA_2, List.map] <;> rfl)) ?_
          refine GRun.p1 (v := .ptr 3 1 0 0) rfl rfl (fun ρ' h => pl_alloc (H := [smB B, quB B, ⟨43, 2, [.agg [.int p, .int q]]⟩]) zero43 rfl (by decide)) ?_
          refine GRun.nil ?_
          refine goB ?_
          refine ARun.q1 rfl rfl (ql_lookup2 (f := AV.bool) (m := smM B) ((x : Int), (y : Int)) (by simp +decide only [go_sem] <;> rfl) (by simp +decide only [go_sem] <;> rfl) VR.pair rfl Try.underlying101 key43 zero4) ?_
          rw [smM_get (x, y) B]
          by_cases hm : (x, y) ∈ B
          · rw [if_pos hm]
            rw [addN_old hm] at hRs
            refine goB ?_
            refine iff_ ?_
            refine goB ?_
            rw [wrap_succ (by omega)]
            refine ⟨c + 1, hc2, by omega, ?_⟩
            simp only [hRs]
            exact Wk.tf 3 (pubB (.cons (PuB_smB _) (.cons (PuB_quB _) (.cons (PuB_quB [(p, q)]) .nil))))
          · rw [if_neg hm]
            rw [addN_new hm] at hRs
            refine goB ?_
            refine ift_ ?_
            refine goB ?_
            refine ARun.p1 rfl rfl (pl_mapUpdate2 enc2 AV.bool (m := smM B) ((x : Int), (y : Int)) true (by simp +decide only [go_sem] <;> rfl) (by simp +decide only [go_sem] <;> rfl) VR.pair (by simp +decide only [go_sem] <;> rfl) rfl Try.underlying101 key43) ?_
            rw [smM_new (p := (x, y)) hm]
            refine goB ?_
            refine ARun.p1 rfl rfl (pl_append (b := 1) (tot := B.length) (es := [.agg [.int x, .int y]]) (by simp +decide only [go_sem] <;> rfl) (by simp +decide only [go_sem] <;> rfl) rfl (by simp) Try.underlying40 el43 rfl rfl (by simp) (fun e he => by rw [List.mem_singleton] at he; subst he; exact ⟨rfl, rfl⟩) (by simp; omega) (by simp; omega)) ?_
            rw [show B.map encP ++ [.agg [.int x, .int y]] = (B ++ [(x, y)]).map encP by rw [List.map_append]; rfl]
            refine goB ?_
            rw [wrap_succ (by omega)]
            refine ⟨c + 1, hc2, by omega, ?_⟩
            simp only [hRs, List.length_append, List.length_cons, List.length_nil]
            exact Wk.tf 3 (pubB (.cons (PuB_smB _) (.cons (PuB_quB _) (.cons (PuB_quB [(p, q)]) .nil))))
        simp at hc2
        obtain rfl : c = 95 := by omega
        refine goB ?_
        rw [wrap_succ (by omega)]
        rw [hR95] at hRc
        obtain ⟨t, ht⟩ : ∃ t, B = A ++ t := by
          obtain ⟨t, ht⟩ := (rowX_ok (δ (p, q)) A 95 (List.range 95) (by simp)).pre
          exact ⟨t, by rw [← hRc, hns, ht]⟩
        refine ⟨k + 1, ⟨by rw [hRc, ht, List.length_append]; omega, fun i x hi hx => ?_⟩, by omega, ?_⟩
        · rw [hRc, ht, List.getElem?_append_left (by omega)] at hx
          rcases Nat.lt_or_ge i k with hik | hik
          · exact hag i x hik hx
          · obtain rfl : i = k := by omega
            rw [hAk] at hx
            injection hx with hx
            subst hx
            exact hne
        simp only [hRc]
        exact Wk.tf 2 (pubB (.cons (PuB_smB _) (.cons (PuB_quB _) .nil)))
      · rw [show (!decide (acR acs p = acR acs2 q)) = true by simp [hne]]
        refine ift_ ?_
        refine goB ?_
        rw [decide_eq_false (fun h => hne (h (p, q) (hpre _ hmem)))]
        exact Ret.data rfl rfl (pd _ _)
    simp at hc
    have hAk : A.length = k := by omega
    refine goB ?_
    have hall : ∀ x ∈ al, acR acs x.1 = acR acs2 x.2 := fun x hx => by
      rw [← hfin hAk] at hx
      obtain ⟨i, hi, rfl⟩ := List.getElem_of_mem hx
      exact hag i _ (by omega) (List.getElem?_eq_getElem hi)
    rw [decide_eq_true hall]
    exact Ret.data rfl rfl (pd _ _)
  · rw [if_neg hv]
    refine ift_ (b := bif !decide (Rx.mk o s l).valid then true else !decide (Rx.mk o' s' l').valid) ?_ (by
      by_cases h1 : (Rx.mk o s l).valid
      · have h2 : ¬ (Rx.mk o' s' l').valid := fun h => hv ⟨h1, h⟩
        simp [h1, h2]
      · simp [h1])
    refine goB ?_
    exact Ret.data rfl rfl (.tup fun c hc => by
      simp only [List.mem_cons, List.not_mem_nil, or_false] at hc
      rcases hc with rfl | rfl <;> exact .base _)
end Go.Ab
