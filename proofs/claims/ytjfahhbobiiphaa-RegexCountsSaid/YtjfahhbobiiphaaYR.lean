/- Part of the proof. -/
import Derived.Test.YtjfahhbobiiphaaYP
import Derived.Test.YtjfahhbobiiphaaYQ
import Derived.Test.YtjfahhbobiiphaaAbP
set_option linter.unusedSimpArgs false
set_option linter.unusedVariables false
set_option maxHeartbeats 4000000
namespace Go.Ab
open Go Go.Ab Go.Proofs Go.Ab.Ty

theorem ql_mG {H : List ABlk} {ρ : Operand → AV} {x : Operand} {G : List Int} {rows : List (List Nat)} {acs : List Bool} {c : Nat} (hx : ρ x = .iptr (mkA G rows acs) c) (hc : c < G.length) : QL Try.prog H ρ (.load 3 x) (.int (G.getD c 0)) := by
  refine ql_fun1 ?_
  have h : (G.map AV.int ++ [.lst (rows.map nL), lB acs])[c]? = some (.int (G.getD c 0)) := by
    rw [List.getElem?_append_left (by simpa using hc), List.getElem?_map, List.getElem?_eq_getElem hc, List.getD_eq_getElem?_getD, List.getElem?_eq_getElem hc]; rfl
  simp only [qfun, hx, agg3, sz3, ldE, AV.cells, mkA, h]
theorem ql_ixGi {H : List ABlk} {ρ : Operand → AV} {x y : Operand} {e : AV} {k : Nat} (hx : ρ x = .iptr e 0) (hy : ρ y = .int k) (h : k < 95) : QL Try.prog H ρ (.indexAddr 102 x y) (.iptr e k) := by
  have := ql_indexAddr_iptr (P := Try.prog) (H := H) (ρ := ρ) (t := 102) (x := x) (i := y) (k := .i64) (n := (k : Int)) (off := 0) (len := 95) (sz := 1) (el := 3) hx hy Try.underlying102 (by omega) (by omega) sz3
  simpa using this
theorem step_ok (m : Mk) (hm : MkW m) (p c : Nat) (hp : p < m.2.1.length) (hc : c < 95) : Fn Try.prog 82 [encMk m, .int p, .int c] (.int (stepN m.1 m.2.1 p c)) := by
  obtain ⟨h1, h2⟩ := hm.g hp hc
  have hgl := hm.gl
  obtain ⟨G, rows, acs⟩ := m
  unfold stepN
  unfold encMk
  simp only at h1 h2 hgl hp ⊢
  refine Fn.intro' [(0, .iptr (mkA G rows acs) 0), (1, .int p), (2, .int c)] 3 22 Try.func82 (by kernel_rfl) rfl rfl rfl rfl rfl ?_
  have hml : (rows.map nL).length = rows.length := List.length_map _
  obtain ⟨g, hg⟩ : ∃ g : Nat, G[c]? = some (g : Int) := ⟨_, h2⟩
  have hgd : G.getD c 0 = (g : Int) := (List.getD_eq_getElem?_getD ..).trans (by rw [hg]; rfl)
  rw [hgd] at h1 h2 ⊢
  simp only [Int.toNat_natCast] at h1 h2 ⊢
  refine goB ?_
  have h95 := (mcM_95 hgl (.lst (rows.map nL)) (lB acs)).1
  refine drA (k := 15) follows (hr := ?_)
  refine goB ?_
  rw [h95]
  refine rcA ?_
  refine ARun.q1 rfl rfl (ql_ixGi (by simp +decide only [go_sem] <;> rfl) (by simp +decide only [go_sem] <;> rfl) hc) ?_
  refine ARun.q1 rfl rfl (ql_mG (by simp +decide only [go_sem] <;> rfl) (by omega)) ?_
  rw [hgd]
  have hnr : nth default rows (p : Int) = rows.getD p [] := by rw [nth_eq hp, List.getD_eq_getElem?_getD, List.getElem?_eq_getElem hp]; rfl
  rw [hnr]
  generalize rows.getD p [] = row at *
  refine goB ?_
  rw [nthN h1]
  exact Ret.data rfl rfl (.base _)
noncomputable def loR (r : Rx) : Option Mk := (madeR r).bind leastR
theorem encMd_none : encMd none = .tup [.base (.pointer none), .bool false] := rfl
theorem encMd_some (m : Mk) : encMd (some m) = .tup [encMk m, .bool true] := rfl
open Classical in
noncomputable def encLo (r : Rx) : AV := if r.valid then (match loR r with
  | some m => .tup [encMk m, .int 0]
  | none => .tup [.base (.pointer none), .int 2]) else .tup [.base (.pointer none), .int 4]
open Classical in
theorem leastOf_ok (r : Rx) (hok : r.ok) (hc : r.cnt ≤ 1000000000) : Fn Try.prog 81 [encX r] (encLo r) := by
  have i1 := valid_ok r hok hc
  have h1 : r.valid → Fn Try.prog 111 [encX r] (encMd (madeR r)) := fun h => by
    obtain ⟨⟨hcn, _⟩, hw⟩ := h
    have hl := lvs_cnt r
    obtain ⟨⟨t, e1, e2, e3, e4⟩, e5⟩ := spA_ok r hw (by omega) []
    rw [List.nil_append] at e1 e4
    refine made_ok r hok hw (by omega) ?_ ?_ ?_
    · rw [e1]; omega
    · rw [e1]; intro c hc
      obtain ⟨L, hL⟩ := e3 c hc
      have := hL.h63; have := hL.bf; omega
    · intro hb; rw [e1]; exact (e4 hb).1
  have h2 : r.valid → ∀ m, madeR r = some m → Fn Try.prog 112 [encMk m] (encMd (leastR m)) := fun h m hm => by
    obtain ⟨⟨hcn, _⟩, hw⟩ := h
    have hl := lvs_cnt r
    obtain ⟨k1, k2, k3⟩ := madeR_ok hw (by omega) hm
    have k4 := k1.w
    obtain ⟨G, rows, acs⟩ := m
    exact least_ok G rows acs k4.gl k4.pos k3 k4.al k4.wd k4.lt
  unfold encLo loR
  obtain ⟨o, s, l⟩ := r
  rw [encX_mk] at *
  refine Fn.intro' [(0, .agg [.int o, str s, .lst (l.map encX)])] 1 23 Try.func81 (by kernel_rfl) rfl rfl rfl rfl rfl ?_
  refine goB ?_
  refine callA (i1) ?_
  refine goB ?_
  by_cases hv : (Rx.mk o s l).valid
  · rw [show (!decide (Rx.mk o s l).valid) = false by simp [hv]]
    refine iff_ ?_
    rw [if_pos hv]
    have j1 := h1 hv
    have j2 := h2 hv
    rcases hm : madeR (.mk o s l) with _ | m
    · rw [hm, encMd_none] at j1
      simp only [Option.bind_none]
      refine goB ?_
      refine callA (j1) ?_
      refine goB ?_
      refine iff_ ?_
      refine goB ?_
      refine ift_ ?_
      refine goB ?_
      exact Ret.data rfl rfl (.tup fun c hc => by
        simp only [List.mem_cons, List.not_mem_nil, or_false] at hc
        rcases hc with rfl | rfl <;> exact .base _)
    · have j3 := j2 m hm
      rw [hm, encMd_some] at j1
      simp only [Option.bind_some]
      obtain ⟨G, rows, acs⟩ := m
      simp only [encMk] at j1 j3
      refine goB ?_
      refine callA (j1) ?_
      refine goB ?_
      refine ift_ ?_
      refine goB ?_
      rcases hl : leastR (G, rows, acs) with _ | m2
      · rw [hl, encMd_none] at j3
        refine callA (j3) ?_
        refine goB ?_
        refine ift_ ?_
        refine goB ?_
        exact Ret.data rfl rfl (.tup fun c hc => by
          simp only [List.mem_cons, List.not_mem_nil, or_false] at hc
          rcases hc with rfl | rfl <;> exact .base _)
      · rw [hl, encMd_some] at j3
        obtain ⟨G2, rows2, acs2⟩ := m2
        simp only [encMk] at j3 ⊢
        refine callA (j3) ?_
        refine goB ?_
        refine iff_ ?_
        refine goB ?_
        exact Ret.data rfl rfl (.tup fun c hc => by
          simp only [List.mem_cons, List.not_mem_nil, or_false] at hc
          rcases hc with rfl | rfl
          · exact Pu_mk _ _ _
          · exact .base _)
  · rw [show (!decide (Rx.mk o s l).valid) = true by simp [hv]]
    refine ift_ ?_
    rw [if_neg hv]
    refine goB ?_
    exact Ret.data rfl rfl (.tup fun c hc => by
      simp only [List.mem_cons, List.not_mem_nil, or_false] at hc
      rcases hc with rfl | rfl <;> exact .base _)
end Go.Ab
set_option maxHeartbeats 4000000
namespace Go.Ab
open Go Go.Ab Go.Proofs Go.Ab.Ty

theorem loR_ok {r : Rx} (hv : r.valid) {m : Mk} (h : loR r = some m) : MkOk (lng r) m ∧ Lm (lng r) m.2.1.length (stM m) (acR m.2.2) ∧ m.2.1.length ≤ 200 := by
  obtain ⟨⟨hcn, _⟩, hw⟩ := hv
  have hl := lvs_cnt r
  unfold loR at h
  rcases hm : madeR r with _ | m0
  · rw [hm] at h; cases h
  · rw [hm] at h
    obtain ⟨h1, h2, h3⟩ := madeR_ok hw (by omega) hm
    exact leastR_ok h1 h
theorem ql_ix2 {H : List ABlk} {ρ : Operand → AV} {x y : Operand} {b tot i0 off k : Nat} (hx : ρ x = .ptr b tot i0 off) (hf : fresh H b tot = true) (hy : ρ y = .int k) (h : k < 2) : QL Try.prog H ρ (.indexAddr 43 x y) (.ptr b tot i0 (off + k)) := by
  have := ql_indexAddr_ptr (P := Try.prog) (H := H) (ρ := ρ) (t := 43) (x := x) (i := y) (k := .i64) (n := (k : Int)) (b := b) (tot := tot) (i0 := i0) (off := off) (len := 2) (sz := 1) (el := 3) hx hf hy Try.underlying43 (by omega) (by omega) sz3
  simpa using this
instance : OfNat (Nat × Nat) 0 := ⟨(0, 0)⟩
abbrev quB (l : List (Nat × Nat)) : ABlk := ⟨43, 2, l.map encP⟩
theorem PuB_quB (l : List (Nat × Nat)) : ∀ e ∈ (quB l).es, ∀ c ∈ e.cells, Pu c := fun e he c hc => by
  obtain ⟨x, _, rfl⟩ := List.mem_map.1 he
  exact Pu_cP x c hc
end Go.Ab
