/- The data of chapter 22, and the shapes of its types. -/
import Derived.Test.YthjeoagadjdilaaT22
set_option linter.unusedSimpArgs false
set_option linter.unusedVariables false
namespace Go.Ab
open Go Go.Ab Go.Proofs Go.Ab.Ty

structure Stp where
  op : Int
  v : Int
  w : Int
  n : Int
  task : Int
  vars : List Int
structure Cd where
  params : Int
  vars : Int
  steps : List Stp
structure Tk where
  codes : List Cd
  methods : List Cd
  actors : Int

def encI (x : Int) : AV := .base (.int .i64 x)
@[go_sem] theorem encI_eq (x : Int) : encI x = .base (.int .i64 x) := rfl
def encS (s : Stp) : AV := .agg [.int s.op, .int s.v, .int s.w, .int s.n, .int s.task, .lst (s.vars.map .int)]
def encC (c : Cd) : AV := .agg [.int c.params, .int c.vars, .lst (c.steps.map encS)]
def encT (p : Tk) : AV := .agg [.lst (p.codes.map encC), .lst (p.methods.map encC), .int p.actors]
attribute [go_sem] encS encC encT List.length_map

structure Lk where
  p : Tk
  c : Cd
  own : Int
  method : Bool
def encL (l : Lk) : AV := .agg [.lst (l.p.codes.map encC), .lst (l.p.methods.map encC), .int l.p.actors, .int l.c.params, .int l.c.vars, .lst (l.c.steps.map encS), .int l.own, .base (.bool l.method)]
attribute [go_sem] encL
theorem Pu_mapS (l : List Stp) : Pu (.lst (l.map encS)) := .lst fun e he c hc => by
  obtain ⟨x, _, rfl⟩ := List.mem_map.1 he
  simp only [encS, AV.cells, List.mem_cons, List.not_mem_nil, or_false] at hc
  rcases hc with rfl | rfl | rfl | rfl | rfl | rfl <;> first | exact .base _ | exact Pu_mapInt _
theorem Pu_encS (s : Stp) : Pu (encS s) := .agg fun c hc => by
  simp only [List.mem_cons, List.not_mem_nil, or_false] at hc
  rcases hc with rfl | rfl | rfl | rfl | rfl | rfl <;> first | exact .base _ | exact Pu_mapInt _
theorem Pu_encC (s : Cd) : Pu (encC s) := .agg fun c hc => by
  simp only [List.mem_cons, List.not_mem_nil, or_false] at hc
  rcases hc with rfl | rfl | rfl <;> first | exact .base _ | exact Pu_mapS _
theorem Pu_mapC (l : List Cd) : Pu (.lst (l.map encC)) := .lst fun e he c hc => by
  obtain ⟨x, _, rfl⟩ := List.mem_map.1 he
  simp only [encC, AV.cells, List.mem_cons, List.not_mem_nil, or_false] at hc
  rcases hc with rfl | rfl | rfl <;> first | exact .base _ | exact Pu_mapS _
theorem Pu_encT (s : Tk) : Pu (encT s) := .agg fun c hc => by
  simp only [List.mem_cons, List.not_mem_nil, or_false] at hc
  rcases hc with rfl | rfl | rfl <;> first | exact .base _ | exact Pu_mapC _
theorem Pu_encL (s : Lk) : Pu (encL s) := .agg fun c hc => by
  simp only [List.mem_cons, List.not_mem_nil, or_false] at hc
  rcases hc with rfl | rfl | rfl | rfl | rfl | rfl | rfl | rfl <;> first | exact .base _ | exact Pu_mapC _ | exact Pu_mapS _

def Stp.Bd (s : Stp) : Prop := s.vars.length ≤ 9223372036854775807
def Cd.Bd (c : Cd) : Prop := c.steps.length ≤ 9223372036854775807 ∧ ∀ s ∈ c.steps, s.Bd
def Tk.Bd (p : Tk) : Prop := p.codes.length ≤ 9223372036854775807 ∧ p.methods.length ≤ 9223372036854775807 ∧ (∀ c ∈ p.codes, c.Bd) ∧ (∀ c ∈ p.methods, c.Bd)
section
variable {w : World} {O : Nat → Prop} {ι : Nat → Option Nat} {H : List ABlk} {u : Value}
theorem VR.bdS {s : Stp} (h : VR w O ι H (encS s) u) : s.Bd := by
  obtain ⟨v, hv⟩ := h.agg_el (j := 5) rfl
  have := hv.lst_len; rw [List.length_map] at this; exact this
theorem VR.bdL {l : List Stp} (h : VR w O ι H (.lst (l.map encS)) u) : l.length ≤ 9223372036854775807 ∧ ∀ s ∈ l, s.Bd := by
  refine ⟨by simpa using h.lst_len, fun s hs => ?_⟩
  obtain ⟨v, hv⟩ := h.lst_el (List.mem_map_of_mem hs) (j := 5) rfl
  simpa [Stp.Bd] using hv.lst_len
theorem VR.bdC {c : Cd} (h : VR w O ι H (encC c) u) : c.Bd := by
  obtain ⟨v, hv⟩ := h.agg_el (j := 2) rfl
  exact hv.bdL
theorem VR.bdM {l : List Cd} (h : VR w O ι H (.lst (l.map encC)) u) : l.length ≤ 9223372036854775807 ∧ ∀ c ∈ l, c.Bd := by
  refine ⟨by simpa using h.lst_len, fun s hs => ?_⟩
  obtain ⟨v, hv⟩ := h.lst_el (List.mem_map_of_mem hs) (j := 2) rfl
  exact hv.bdL
theorem VR.bdT {p : Tk} (h : VR w O ι H (encT p) u) : p.Bd := by
  obtain ⟨v, hv⟩ := h.agg_el (j := 0) rfl
  obtain ⟨v2, hv2⟩ := h.agg_el (j := 1) rfl
  exact ⟨hv.bdM.1, hv2.bdM.1, hv.bdM.2, hv2.bdM.2⟩
end
attribute [simp] Pu_mapS Pu_encS Pu_encC Pu_mapC Pu_encT Pu_encL
end Go.Ab
