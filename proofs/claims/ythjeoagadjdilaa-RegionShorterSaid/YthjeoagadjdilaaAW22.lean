import Derived.Test.YthjeoagadjdilaaK22
namespace Go.Ab
open Go Go.Ab Go.Proofs Go.Ab.Ty
set_option linter.unusedSimpArgs false
set_option linter.unusedVariables false

/-- elements, each lent -/
def LendLL (H : List ABlk) : List AV → List AV → Prop
  | [], [] => True
  | a :: l, b :: m => LendL H a.cells b.cells ∧ LendLL H l m
  | _, _ => False
theorem LendLL.len {H : List ABlk} : ∀ {l m : List AV}, LendLL H l m → l.length = m.length
  | [], [], _ => rfl
  | _ :: l, _ :: m, h => by simp [LendLL.len h.2]
theorem LendLL.get {H : List ABlk} : ∀ {l m : List AV}, LendLL H l m → ∀ (j : Nat) (a b : AV), l[j]? = some a → m[j]? = some b → LendL H a.cells b.cells
  | _ :: l, _ :: m, h, 0, a, b, h1, h2 => by cases h1; cases h2; exact h.1
  | _ :: l, _ :: m, h, j + 1, a, b, h1, h2 => LendLL.get h.2 j a b h1 h2
theorem Lend.ownL {H : List ABlk} {b k ty sz : Nat} {es ds : List AV} (h : H[b]? = some ⟨ty, sz, es⟩) (hk : es.length = k) (hl : LendLL H es ds) : Lend H (.own b k 0 k) (.lst ds) :=
  .own h hk (by omega) (by rw [← hl.len, hk]) fun i e d hi he hd => by
    simp only [Nat.zero_add] at he
    have := hl.get i e d he hd
    exact ⟨this.len, this.get⟩

theorem Lend.lst {H : List ABlk} {es ds : List AV} (hl : LendLL H es ds) : Lend H (.lst es) (.lst ds) := fun w0 w O ι u hs hu => by
  have hlen := hl.len
  cases hu with
  | lnil =>
    have : ds = [] := List.eq_nil_of_length_eq_zero (by simpa using hlen.symm)
    subst this; exact .lnil
  | lst es a n cap s val hn hcap hmax hls hspot hc hv =>
    have hat : ∀ (i : Nat) (d : AV), ds[i]? = some d → ∃ e, es[i]? = some e ∧ LendL H e.cells d.cells := fun i d hd => by
      have hi : i < es.length := by rw [hlen]; exact (List.getElem?_eq_some_iff.1 hd).1
      exact ⟨es[i], List.getElem?_eq_getElem hi, hl.get i _ d (List.getElem?_eq_getElem hi) hd⟩
    have hatc : ∀ (i j : Nat) (d c : AV), ds[i]? = some d → d.cells[j]? = some c → ∃ e c', es[i]? = some e ∧ e.cells[j]? = some c' ∧ Lend H c' c := fun i j d c hd hc => by
      obtain ⟨e, he, hle⟩ := hat i d hd
      have hj : j < e.cells.length := by rw [hle.len]; exact (List.getElem?_eq_some_iff.1 hc).1
      exact ⟨e, _, he, List.getElem?_eq_getElem hj, hle.get j _ c (List.getElem?_eq_getElem hj) hc⟩
    refine .lst ds a n cap s val (by omega) hcap hmax (fun d hd => ?_) (fun d hd => ?_) (fun i j d c hd hcj => ?_) fun i j d c hd hcj => ?_
    · obtain ⟨i, hi, rfl⟩ := List.mem_iff_getElem.1 hd
      obtain ⟨e, he, hle⟩ := hat i _ (List.getElem?_eq_getElem hi)
      rw [← hle.len]; exact hls e (List.mem_of_getElem? he)
    · obtain ⟨i, hi, rfl⟩ := List.mem_iff_getElem.1 hd
      obtain ⟨e, he, hle⟩ := hat i _ (List.getElem?_eq_getElem hi)
      exact hspot e (List.mem_of_getElem? he)
    · obtain ⟨e, c', he, hc', hL⟩ := hatc i j d c hd hcj
      exact ⟨fun h => h, (hc i j e c' he hc').2⟩
    · obtain ⟨e, c', he, hc', hL⟩ := hatc i j d c hd hcj
      exact hL w0 w O ι _ hs (hv i j e c' he hc')

def aS1 : Stp := ⟨1, 0, 0, 0, 0, []⟩
def aS2 : Stp := ⟨1, 1, 0, 0, 0, []⟩
def aS3 : Stp := ⟨3, 0, 1, 0, 0, []⟩
def aS4 : Stp := ⟨6, 0, 0, 0, 1, [0]⟩
def aS5 : Stp := ⟨4, 1, 0, 0, 0, []⟩
def aP1 : Tk := ⟨[⟨0, 2, [aS1, aS2, aS3, aS4, aS5]⟩, ⟨1, 1, []⟩], [], 0⟩
def aP2 : Tk := ⟨[⟨0, 2, [aS1, aS2, aS4, aS5]⟩, ⟨1, 1, []⟩], [], 0⟩

abbrev z1 : AV := .agg [.int 1, .int 0, .int 0, .int 0, .int 0, .base (.slice none 0 0)]
abbrev z2 : AV := .agg [.int 1, .int 1, .int 0, .int 0, .int 0, .base (.slice none 0 0)]
abbrev z3 : AV := .agg [.int 3, .int 0, .int 1, .int 0, .int 0, .base (.slice none 0 0)]
abbrev z4 : AV := .agg [.int 6, .int 0, .int 0, .int 0, .int 1, .lst [.int 0]]
abbrev z5 : AV := .agg [.int 4, .int 1, .int 0, .int 0, .int 0, .base (.slice none 0 0)]
abbrev aH0 : List ABlk := [⟨31, 3, [.agg [.int 0, .int 2, .lst [z1, z2, z3, z4, z5]], .agg [.int 1, .int 1, .base (.slice none 0 0)]]⟩, ⟨24, 3, [.agg [.own 0 2 0 2, .base (.slice none 0 0), .int 0]]⟩]

theorem awake_ok (h1 : okValid aP1) (h2 : okValid aP2) (e1 : numsF aP1 (nums aP1) = (0, 4, 220)) (e2 : numsF aP2 (nums aP2) = (0, 0, 0)) : Fn Try.prog 11 [] (.bool true) := by
  refine Fn.intro' [] 0 48 Try.func11 (by kernel_rfl) rfl rfl rfl rfl rfl ?_
  repeat (first
    | with_reducible refine AWp.seq ?_
    | ((with_reducible apply AWp.regionL); (refine ⟨rfl, rfl, ?_⟩; simp (decide := true) only [Nat.reduceAdd, List.map, go_sem]; rfl))
    | with_reducible refine ARun.nil ?_
    | with_reducible refine thenQ_n ?_
    | with_reducible refine thenQ_r ?_
    | with_reducible refine thenQ_e ?_
    | with_reducible refine blkQ_n ?_
    | with_reducible refine blkQ_r ?_
    | with_reducible refine blkQ_e ?_
    | with_reducible refine blkQ_o rfl ?_
    | with_reducible refine AWp.block ?_
    | with_reducible refine AWp.skip ?_
    | with_reducible refine AWp.ret ?_
    | with_reducible refine AWp.exit ?_
    | with_reducible refine retQ_n ?_
    | with_reducible refine retQ_r ?_
    | ((with_reducible apply ARun.go); (simp (decide := true) only [Nat.reduceAdd, go_sem]; rfl); (simp (decide := true) only [Nat.reduceAdd, go_sem]; (repeat simp (decide := true) only [Nat.reduceAdd, go_sem]); rfl))
    | (refine ARun.p1 rfl rfl (pl_box (by simp (decide := true) only [Nat.reduceAdd, go_sem]; rfl) rfl) ?_)
    | (refine ARun.p1 rfl rfl (pl_alloc (by simp only [Nat.reduceAdd, go_sem]; rfl) rfl) ?_)
    | (refine ARun.p1 rfl rfl (pl_store (by simp (decide := true) only [Nat.reduceAdd, go_sem]; rfl) (by simp (decide := true) only [Nat.reduceAdd, go_sem]; rfl) (by simp (decide := true) only [Nat.reduceAdd, go_sem]; rfl) (by rfl) (by rfl) (by kernel_rfl) (by rfl) (by rfl)) ?_)
    | fail)
  refine ARun.q1 rfl rfl (ql_build pl34 zero34 (by simp (decide := true) only [Nat.reduceAdd, List.map, go_sem] <;> rfl)) ?_
  repeat (first
    | with_reducible refine AWp.seq ?_
    | ((with_reducible apply AWp.regionL); (refine ⟨rfl, rfl, ?_⟩; simp (decide := true) only [Nat.reduceAdd, List.map, go_sem]; rfl))
    | with_reducible refine ARun.nil ?_
    | with_reducible refine thenQ_n ?_
    | with_reducible refine thenQ_r ?_
    | with_reducible refine thenQ_e ?_
    | with_reducible refine blkQ_n ?_
    | with_reducible refine blkQ_r ?_
    | with_reducible refine blkQ_e ?_
    | with_reducible refine blkQ_o rfl ?_
    | with_reducible refine AWp.block ?_
    | with_reducible refine AWp.skip ?_
    | with_reducible refine AWp.ret ?_
    | with_reducible refine AWp.exit ?_
    | with_reducible refine retQ_n ?_
    | with_reducible refine retQ_r ?_
    | ((with_reducible apply ARun.go); (simp (decide := true) only [Nat.reduceAdd, go_sem]; rfl); (simp (decide := true) only [Nat.reduceAdd, go_sem]; (repeat simp (decide := true) only [Nat.reduceAdd, go_sem]); rfl))
    | (refine ARun.p1 rfl rfl (pl_box (by simp (decide := true) only [Nat.reduceAdd, go_sem]; rfl) rfl) ?_)
    | (refine ARun.p1 rfl rfl (pl_alloc (by simp only [Nat.reduceAdd, go_sem]; rfl) rfl) ?_)
    | (refine ARun.p1 rfl rfl (pl_store (by simp (decide := true) only [Nat.reduceAdd, go_sem]; rfl) (by simp (decide := true) only [Nat.reduceAdd, go_sem]; rfl) (by simp (decide := true) only [Nat.reduceAdd, go_sem]; rfl) (by rfl) (by rfl) (by kernel_rfl) (by rfl) (by rfl)) ?_)
    | fail)
  refine ARun.q1 rfl rfl (ql_build pl34 zero34 (by simp (decide := true) only [Nat.reduceAdd, List.map, go_sem] <;> rfl)) ?_
  repeat (first
    | with_reducible refine AWp.seq ?_
    | ((with_reducible apply AWp.regionL); (refine ⟨rfl, rfl, ?_⟩; simp (decide := true) only [Nat.reduceAdd, List.map, go_sem]; rfl))
    | with_reducible refine ARun.nil ?_
    | with_reducible refine thenQ_n ?_
    | with_reducible refine thenQ_r ?_
    | with_reducible refine thenQ_e ?_
    | with_reducible refine blkQ_n ?_
    | with_reducible refine blkQ_r ?_
    | with_reducible refine blkQ_e ?_
    | with_reducible refine blkQ_o rfl ?_
    | with_reducible refine AWp.block ?_
    | with_reducible refine AWp.skip ?_
    | with_reducible refine AWp.ret ?_
    | with_reducible refine AWp.exit ?_
    | with_reducible refine retQ_n ?_
    | with_reducible refine retQ_r ?_
    | ((with_reducible apply ARun.go); (simp (decide := true) only [Nat.reduceAdd, go_sem]; rfl); (simp (decide := true) only [Nat.reduceAdd, go_sem]; (repeat simp (decide := true) only [Nat.reduceAdd, go_sem]); rfl))
    | (refine ARun.p1 rfl rfl (pl_box (by simp (decide := true) only [Nat.reduceAdd, go_sem]; rfl) rfl) ?_)
    | (refine ARun.p1 rfl rfl (pl_alloc (by simp only [Nat.reduceAdd, go_sem]; rfl) rfl) ?_)
    | (refine ARun.p1 rfl rfl (pl_store (by simp (decide := true) only [Nat.reduceAdd, go_sem]; rfl) (by simp (decide := true) only [Nat.reduceAdd, go_sem]; rfl) (by simp (decide := true) only [Nat.reduceAdd, go_sem]; rfl) (by rfl) (by rfl) (by kernel_rfl) (by rfl) (by rfl)) ?_)
    | fail)
  refine ARun.q1 rfl rfl (ql_build pl34 zero34 (by simp (decide := true) only [Nat.reduceAdd, List.map, go_sem] <;> rfl)) ?_
  repeat (first
    | with_reducible refine AWp.seq ?_
    | ((with_reducible apply AWp.regionL); (refine ⟨rfl, rfl, ?_⟩; simp (decide := true) only [Nat.reduceAdd, List.map, go_sem]; rfl))
    | with_reducible refine ARun.nil ?_
    | with_reducible refine thenQ_n ?_
    | with_reducible refine thenQ_r ?_
    | with_reducible refine thenQ_e ?_
    | with_reducible refine blkQ_n ?_
    | with_reducible refine blkQ_r ?_
    | with_reducible refine blkQ_e ?_
    | with_reducible refine blkQ_o rfl ?_
    | with_reducible refine AWp.block ?_
    | with_reducible refine AWp.skip ?_
    | with_reducible refine AWp.ret ?_
    | with_reducible refine AWp.exit ?_
    | with_reducible refine retQ_n ?_
    | with_reducible refine retQ_r ?_
    | ((with_reducible apply ARun.go); (simp (decide := true) only [Nat.reduceAdd, go_sem]; rfl); (simp (decide := true) only [Nat.reduceAdd, go_sem]; (repeat simp (decide := true) only [Nat.reduceAdd, go_sem]); rfl))
    | (refine ARun.p1 rfl rfl (pl_box (by simp (decide := true) only [Nat.reduceAdd, go_sem]; rfl) rfl) ?_)
    | (refine ARun.p1 rfl rfl (pl_alloc (by simp only [Nat.reduceAdd, go_sem]; rfl) rfl) ?_)
    | (refine ARun.p1 rfl rfl (pl_store (by simp (decide := true) only [Nat.reduceAdd, go_sem]; rfl) (by simp (decide := true) only [Nat.reduceAdd, go_sem]; rfl) (by simp (decide := true) only [Nat.reduceAdd, go_sem]; rfl) (by rfl) (by rfl) (by kernel_rfl) (by rfl) (by rfl)) ?_)
    | fail)
  refine ARun.q1 rfl rfl (ql_buildSlice (by decide) Try.underlying32 sz3 (by kernel_rfl) (by decide) (by simp (decide := true) only [Nat.reduceAdd, List.map, go_sem] <;> rfl) (by simp (decide := true) only [Nat.reduceAdd, List.map, go_sem] <;> rfl) (by rfl)) ?_
  repeat (first
    | with_reducible refine AWp.seq ?_
    | ((with_reducible apply AWp.regionL); (refine ⟨rfl, rfl, ?_⟩; simp (decide := true) only [Nat.reduceAdd, List.map, go_sem]; rfl))
    | with_reducible refine ARun.nil ?_
    | with_reducible refine thenQ_n ?_
    | with_reducible refine thenQ_r ?_
    | with_reducible refine thenQ_e ?_
    | with_reducible refine blkQ_n ?_
    | with_reducible refine blkQ_r ?_
    | with_reducible refine blkQ_e ?_
    | with_reducible refine blkQ_o rfl ?_
    | with_reducible refine AWp.block ?_
    | with_reducible refine AWp.skip ?_
    | with_reducible refine AWp.ret ?_
    | with_reducible refine AWp.exit ?_
    | with_reducible refine retQ_n ?_
    | with_reducible refine retQ_r ?_
    | ((with_reducible apply ARun.go); (simp (decide := true) only [Nat.reduceAdd, go_sem]; rfl); (simp (decide := true) only [Nat.reduceAdd, go_sem]; (repeat simp (decide := true) only [Nat.reduceAdd, go_sem]); rfl))
    | (refine ARun.p1 rfl rfl (pl_box (by simp (decide := true) only [Nat.reduceAdd, go_sem]; rfl) rfl) ?_)
    | (refine ARun.p1 rfl rfl (pl_alloc (by simp only [Nat.reduceAdd, go_sem]; rfl) rfl) ?_)
    | (refine ARun.p1 rfl rfl (pl_store (by simp (decide := true) only [Nat.reduceAdd, go_sem]; rfl) (by simp (decide := true) only [Nat.reduceAdd, go_sem]; rfl) (by simp (decide := true) only [Nat.reduceAdd, go_sem]; rfl) (by rfl) (by rfl) (by kernel_rfl) (by rfl) (by rfl)) ?_)
    | fail)
  refine ARun.q1 rfl rfl (ql_build pl34 zero34 (by simp (decide := true) only [Nat.reduceAdd, List.map, go_sem] <;> rfl)) ?_
  repeat (first
    | with_reducible refine AWp.seq ?_
    | ((with_reducible apply AWp.regionL); (refine ⟨rfl, rfl, ?_⟩; simp (decide := true) only [Nat.reduceAdd, List.map, go_sem]; rfl))
    | with_reducible refine ARun.nil ?_
    | with_reducible refine thenQ_n ?_
    | with_reducible refine thenQ_r ?_
    | with_reducible refine thenQ_e ?_
    | with_reducible refine blkQ_n ?_
    | with_reducible refine blkQ_r ?_
    | with_reducible refine blkQ_e ?_
    | with_reducible refine blkQ_o rfl ?_
    | with_reducible refine AWp.block ?_
    | with_reducible refine AWp.skip ?_
    | with_reducible refine AWp.ret ?_
    | with_reducible refine AWp.exit ?_
    | with_reducible refine retQ_n ?_
    | with_reducible refine retQ_r ?_
    | ((with_reducible apply ARun.go); (simp (decide := true) only [Nat.reduceAdd, go_sem]; rfl); (simp (decide := true) only [Nat.reduceAdd, go_sem]; (repeat simp (decide := true) only [Nat.reduceAdd, go_sem]); rfl))
    | (refine ARun.p1 rfl rfl (pl_box (by simp (decide := true) only [Nat.reduceAdd, go_sem]; rfl) rfl) ?_)
    | (refine ARun.p1 rfl rfl (pl_alloc (by simp only [Nat.reduceAdd, go_sem]; rfl) rfl) ?_)
    | (refine ARun.p1 rfl rfl (pl_store (by simp (decide := true) only [Nat.reduceAdd, go_sem]; rfl) (by simp (decide := true) only [Nat.reduceAdd, go_sem]; rfl) (by simp (decide := true) only [Nat.reduceAdd, go_sem]; rfl) (by rfl) (by rfl) (by kernel_rfl) (by rfl) (by rfl)) ?_)
    | fail)
  refine ARun.q1 rfl rfl (ql_build pl34 zero34 (by simp (decide := true) only [Nat.reduceAdd, List.map, go_sem] <;> rfl)) ?_
  repeat (first
    | with_reducible refine AWp.seq ?_
    | ((with_reducible apply AWp.regionL); (refine ⟨rfl, rfl, ?_⟩; simp (decide := true) only [Nat.reduceAdd, List.map, go_sem]; rfl))
    | with_reducible refine ARun.nil ?_
    | with_reducible refine thenQ_n ?_
    | with_reducible refine thenQ_r ?_
    | with_reducible refine thenQ_e ?_
    | with_reducible refine blkQ_n ?_
    | with_reducible refine blkQ_r ?_
    | with_reducible refine blkQ_e ?_
    | with_reducible refine blkQ_o rfl ?_
    | with_reducible refine AWp.block ?_
    | with_reducible refine AWp.skip ?_
    | with_reducible refine AWp.ret ?_
    | with_reducible refine AWp.exit ?_
    | with_reducible refine retQ_n ?_
    | with_reducible refine retQ_r ?_
    | ((with_reducible apply ARun.go); (simp (decide := true) only [Nat.reduceAdd, go_sem]; rfl); (simp (decide := true) only [Nat.reduceAdd, go_sem]; (repeat simp (decide := true) only [Nat.reduceAdd, go_sem]); rfl))
    | (refine ARun.p1 rfl rfl (pl_box (by simp (decide := true) only [Nat.reduceAdd, go_sem]; rfl) rfl) ?_)
    | (refine ARun.p1 rfl rfl (pl_alloc (by simp only [Nat.reduceAdd, go_sem]; rfl) rfl) ?_)
    | (refine ARun.p1 rfl rfl (pl_store (by simp (decide := true) only [Nat.reduceAdd, go_sem]; rfl) (by simp (decide := true) only [Nat.reduceAdd, go_sem]; rfl) (by simp (decide := true) only [Nat.reduceAdd, go_sem]; rfl) (by rfl) (by rfl) (by kernel_rfl) (by rfl) (by rfl)) ?_)
    | fail)
  refine ARun.q1 rfl rfl (ql_buildSlice (by decide) Try.underlying29 sz34 (by kernel_rfl) (by decide) (by simp (decide := true) only [Nat.reduceAdd, List.map, go_sem] <;> rfl) (by simp (decide := true) only [Nat.reduceAdd, List.map, go_sem] <;> rfl) (by rfl)) ?_
  repeat (first
    | with_reducible refine AWp.seq ?_
    | ((with_reducible apply AWp.regionL); (refine ⟨rfl, rfl, ?_⟩; simp (decide := true) only [Nat.reduceAdd, List.map, go_sem]; rfl))
    | with_reducible refine ARun.nil ?_
    | with_reducible refine thenQ_n ?_
    | with_reducible refine thenQ_r ?_
    | with_reducible refine thenQ_e ?_
    | with_reducible refine blkQ_n ?_
    | with_reducible refine blkQ_r ?_
    | with_reducible refine blkQ_e ?_
    | with_reducible refine blkQ_o rfl ?_
    | with_reducible refine AWp.block ?_
    | with_reducible refine AWp.skip ?_
    | with_reducible refine AWp.ret ?_
    | with_reducible refine AWp.exit ?_
    | with_reducible refine retQ_n ?_
    | with_reducible refine retQ_r ?_
    | ((with_reducible apply ARun.go); (simp (decide := true) only [Nat.reduceAdd, go_sem]; rfl); (simp (decide := true) only [Nat.reduceAdd, go_sem]; (repeat simp (decide := true) only [Nat.reduceAdd, go_sem]); rfl))
    | (refine ARun.p1 rfl rfl (pl_box (by simp (decide := true) only [Nat.reduceAdd, go_sem]; rfl) rfl) ?_)
    | (refine ARun.p1 rfl rfl (pl_alloc (by simp only [Nat.reduceAdd, go_sem]; rfl) rfl) ?_)
    | (refine ARun.p1 rfl rfl (pl_store (by simp (decide := true) only [Nat.reduceAdd, go_sem]; rfl) (by simp (decide := true) only [Nat.reduceAdd, go_sem]; rfl) (by simp (decide := true) only [Nat.reduceAdd, go_sem]; rfl) (by rfl) (by rfl) (by kernel_rfl) (by rfl) (by rfl)) ?_)
    | fail)
  refine ARun.q1 rfl rfl (ql_build pl31 zero31 (by simp (decide := true) only [Nat.reduceAdd, List.map, go_sem] <;> rfl)) ?_
  repeat (first
    | with_reducible refine AWp.seq ?_
    | ((with_reducible apply AWp.regionL); (refine ⟨rfl, rfl, ?_⟩; simp (decide := true) only [Nat.reduceAdd, List.map, go_sem]; rfl))
    | with_reducible refine ARun.nil ?_
    | with_reducible refine thenQ_n ?_
    | with_reducible refine thenQ_r ?_
    | with_reducible refine thenQ_e ?_
    | with_reducible refine blkQ_n ?_
    | with_reducible refine blkQ_r ?_
    | with_reducible refine blkQ_e ?_
    | with_reducible refine blkQ_o rfl ?_
    | with_reducible refine AWp.block ?_
    | with_reducible refine AWp.skip ?_
    | with_reducible refine AWp.ret ?_
    | with_reducible refine AWp.exit ?_
    | with_reducible refine retQ_n ?_
    | with_reducible refine retQ_r ?_
    | ((with_reducible apply ARun.go); (simp (decide := true) only [Nat.reduceAdd, go_sem]; rfl); (simp (decide := true) only [Nat.reduceAdd, go_sem]; (repeat simp (decide := true) only [Nat.reduceAdd, go_sem]); rfl))
    | (refine ARun.p1 rfl rfl (pl_box (by simp (decide := true) only [Nat.reduceAdd, go_sem]; rfl) rfl) ?_)
    | (refine ARun.p1 rfl rfl (pl_alloc (by simp only [Nat.reduceAdd, go_sem]; rfl) rfl) ?_)
    | (refine ARun.p1 rfl rfl (pl_store (by simp (decide := true) only [Nat.reduceAdd, go_sem]; rfl) (by simp (decide := true) only [Nat.reduceAdd, go_sem]; rfl) (by simp (decide := true) only [Nat.reduceAdd, go_sem]; rfl) (by rfl) (by rfl) (by kernel_rfl) (by rfl) (by rfl)) ?_)
    | fail)
  refine ARun.q1 rfl rfl (ql_build pl31 zero31 (by simp (decide := true) only [Nat.reduceAdd, List.map, go_sem] <;> rfl)) ?_
  repeat (first
    | with_reducible refine AWp.seq ?_
    | ((with_reducible apply AWp.regionL); (refine ⟨rfl, rfl, ?_⟩; simp (decide := true) only [Nat.reduceAdd, List.map, go_sem]; rfl))
    | with_reducible refine ARun.nil ?_
    | with_reducible refine thenQ_n ?_
    | with_reducible refine thenQ_r ?_
    | with_reducible refine thenQ_e ?_
    | with_reducible refine blkQ_n ?_
    | with_reducible refine blkQ_r ?_
    | with_reducible refine blkQ_e ?_
    | with_reducible refine blkQ_o rfl ?_
    | with_reducible refine AWp.block ?_
    | with_reducible refine AWp.skip ?_
    | with_reducible refine AWp.ret ?_
    | with_reducible refine AWp.exit ?_
    | with_reducible refine retQ_n ?_
    | with_reducible refine retQ_r ?_
    | ((with_reducible apply ARun.go); (simp (decide := true) only [Nat.reduceAdd, go_sem]; rfl); (simp (decide := true) only [Nat.reduceAdd, go_sem]; (repeat simp (decide := true) only [Nat.reduceAdd, go_sem]); rfl))
    | (refine ARun.p1 rfl rfl (pl_box (by simp (decide := true) only [Nat.reduceAdd, go_sem]; rfl) rfl) ?_)
    | (refine ARun.p1 rfl rfl (pl_alloc (by simp only [Nat.reduceAdd, go_sem]; rfl) rfl) ?_)
    | (refine ARun.p1 rfl rfl (pl_store (by simp (decide := true) only [Nat.reduceAdd, go_sem]; rfl) (by simp (decide := true) only [Nat.reduceAdd, go_sem]; rfl) (by simp (decide := true) only [Nat.reduceAdd, go_sem]; rfl) (by rfl) (by rfl) (by kernel_rfl) (by rfl) (by rfl)) ?_)
    | fail)
  refine ARun.p1 rfl rfl (pl_buildSlice (by decide) Try.underlying22 sz31 (by kernel_rfl) (by decide) (by simp (decide := true) only [Nat.reduceAdd, List.map, go_sem] <;> rfl) (by simp (decide := true) only [Nat.reduceAdd, List.map, go_sem] <;> rfl) (by rfl)) ?_
  repeat (first
    | with_reducible refine AWp.seq ?_
    | ((with_reducible apply AWp.regionL); (refine ⟨rfl, rfl, ?_⟩; simp (decide := true) only [Nat.reduceAdd, List.map, go_sem]; rfl))
    | with_reducible refine ARun.nil ?_
    | with_reducible refine thenQ_n ?_
    | with_reducible refine thenQ_r ?_
    | with_reducible refine thenQ_e ?_
    | with_reducible refine blkQ_n ?_
    | with_reducible refine blkQ_r ?_
    | with_reducible refine blkQ_e ?_
    | with_reducible refine blkQ_o rfl ?_
    | with_reducible refine AWp.block ?_
    | with_reducible refine AWp.skip ?_
    | with_reducible refine AWp.ret ?_
    | with_reducible refine AWp.exit ?_
    | with_reducible refine retQ_n ?_
    | with_reducible refine retQ_r ?_
    | ((with_reducible apply ARun.go); (simp (decide := true) only [Nat.reduceAdd, go_sem]; rfl); (simp (decide := true) only [Nat.reduceAdd, go_sem]; (repeat simp (decide := true) only [Nat.reduceAdd, go_sem]); rfl))
    | (refine ARun.p1 rfl rfl (pl_box (by simp (decide := true) only [Nat.reduceAdd, go_sem]; rfl) rfl) ?_)
    | (refine ARun.p1 rfl rfl (pl_alloc (by simp only [Nat.reduceAdd, go_sem]; rfl) rfl) ?_)
    | (refine ARun.p1 rfl rfl (pl_store (by simp (decide := true) only [Nat.reduceAdd, go_sem]; rfl) (by simp (decide := true) only [Nat.reduceAdd, go_sem]; rfl) (by simp (decide := true) only [Nat.reduceAdd, go_sem]; rfl) (by rfl) (by rfl) (by kernel_rfl) (by rfl) (by rfl)) ?_)
    | fail)
  refine ARun.q1 rfl rfl (ql_build pl24 zero24 (by simp (decide := true) only [Nat.reduceAdd, List.map, go_sem] <;> rfl)) ?_
  repeat (first
    | with_reducible refine AWp.seq ?_
    | ((with_reducible apply AWp.regionL); (refine ⟨rfl, rfl, ?_⟩; simp (decide := true) only [Nat.reduceAdd, List.map, go_sem]; rfl))
    | with_reducible refine ARun.nil ?_
    | with_reducible refine thenQ_n ?_
    | with_reducible refine thenQ_r ?_
    | with_reducible refine thenQ_e ?_
    | with_reducible refine blkQ_n ?_
    | with_reducible refine blkQ_r ?_
    | with_reducible refine blkQ_e ?_
    | with_reducible refine blkQ_o rfl ?_
    | with_reducible refine AWp.block ?_
    | with_reducible refine AWp.skip ?_
    | with_reducible refine AWp.ret ?_
    | with_reducible refine AWp.exit ?_
    | with_reducible refine retQ_n ?_
    | with_reducible refine retQ_r ?_
    | ((with_reducible apply ARun.go); (simp (decide := true) only [Nat.reduceAdd, go_sem]; rfl); (simp (decide := true) only [Nat.reduceAdd, go_sem]; (repeat simp (decide := true) only [Nat.reduceAdd, go_sem]); rfl))
    | (refine ARun.p1 rfl rfl (pl_box (by simp (decide := true) only [Nat.reduceAdd, go_sem]; rfl) rfl) ?_)
    | (refine ARun.p1 rfl rfl (pl_alloc (by simp only [Nat.reduceAdd, go_sem]; rfl) rfl) ?_)
    | (refine ARun.p1 rfl rfl (pl_store (by simp (decide := true) only [Nat.reduceAdd, go_sem]; rfl) (by simp (decide := true) only [Nat.reduceAdd, go_sem]; rfl) (by simp (decide := true) only [Nat.reduceAdd, go_sem]; rfl) (by rfl) (by rfl) (by kernel_rfl) (by rfl) (by rfl)) ?_)
    | fail)
  have hz : ∀ (H : List ABlk) (a b c d e : Int), LendL H [.int a, .int b, .int c, .int d, .int e, .base (.slice none 0 0)] [.int a, .int b, .int c, .int d, .int e, .lst []] := fun H a b c d e =>
    ⟨.pu (.base _), .pu (.base _), .pu (.base _), .pu (.base _), .pu (.base _), .nilS, trivial⟩
  have hz4 : ∀ (H : List ABlk) (a b c d e : Int), LendL H [.int a, .int b, .int c, .int d, .int e, .lst [.int 0]] [.int a, .int b, .int c, .int d, .int e, .lst [.int 0]] := fun H a b c d e =>
    ⟨.pu (.base _), .pu (.base _), .pu (.base _), .pu (.base _), .pu (.base _), .pu (Pu_int1 0), trivial⟩
  refine ARun.q1 rfl rfl (ql_callM (args := [encT aP1]) rfl (by simp (decide := true) only [Nat.reduceAdd, go_sem] <;> rfl) (by simp (decide := true) only [Nat.reduceAdd, go_sem, List.map]; exact ⟨.agg' ⟨.ownL rfl rfl ⟨⟨.pu (.base _), .pu (.base _), .lst ⟨hz _ _ _ _ _ _, hz _ _ _ _ _ _, hz _ _ _ _ _ _, hz4 _ _ _ _ _ _, hz _ _ _ _ _ _, trivial⟩, trivial⟩, ⟨.pu (.base _), .pu (.base _), .nilS, trivial⟩, trivial⟩, .nilS, .pu (.base _), trivial⟩, trivial⟩) (.tup (by intro c hc; simp at hc; rcases hc with rfl | rfl | rfl <;> exact .base _)) (e1 ▸ check_all aP1 h1)) ?_
  repeat (first
    | with_reducible refine AWp.seq ?_
    | ((with_reducible apply AWp.regionL); (refine ⟨rfl, rfl, ?_⟩; simp (decide := true) only [Nat.reduceAdd, List.map, go_sem]; rfl))
    | with_reducible refine ARun.nil ?_
    | with_reducible refine thenQ_n ?_
    | with_reducible refine thenQ_r ?_
    | with_reducible refine thenQ_e ?_
    | with_reducible refine blkQ_n ?_
    | with_reducible refine blkQ_r ?_
    | with_reducible refine blkQ_e ?_
    | with_reducible refine blkQ_o rfl ?_
    | with_reducible refine AWp.block ?_
    | with_reducible refine AWp.skip ?_
    | with_reducible refine AWp.ret ?_
    | with_reducible refine AWp.exit ?_
    | with_reducible refine retQ_n ?_
    | with_reducible refine retQ_r ?_
    | ((with_reducible apply ARun.go); (simp (decide := true) only [Nat.reduceAdd, go_sem]; rfl); (simp (decide := true) only [Nat.reduceAdd, go_sem]; (repeat simp (decide := true) only [Nat.reduceAdd, go_sem]); rfl))
    | (refine ARun.p1 rfl rfl (pl_box (by simp (decide := true) only [Nat.reduceAdd, go_sem]; rfl) rfl) ?_)
    | (refine ARun.p1 rfl rfl (pl_alloc (by simp only [Nat.reduceAdd, go_sem]; rfl) rfl) ?_)
    | (refine ARun.p1 rfl rfl (pl_store (by simp (decide := true) only [Nat.reduceAdd, go_sem]; rfl) (by simp (decide := true) only [Nat.reduceAdd, go_sem]; rfl) (by simp (decide := true) only [Nat.reduceAdd, go_sem]; rfl) (by rfl) (by rfl) (by kernel_rfl) (by rfl) (by rfl)) ?_)
    | fail)
  with_reducible apply AWp.drawK (k := 8) [none, none, none, none, some 0, none, none, some 1] (fun c => match c with | 0 => aH0 | 1 => aH0 ++ [⟨34, 6, [z1, z2]⟩] | _ => aH0 ++ [⟨34, 6, [z1, z2, z4, z5]⟩]) 2 follows
  · refine ⟨rfl, rfl, by kernel_rfl, by decide, ?_, ?_⟩
    · simp (decide := true) only [Nat.reduceAdd, go_sem, List.map, List.take]; rfl
    · simp (decide := true) only [Nat.reduceAdd, go_sem, List.map, List.drop]; rfl
  · kernel_rfl
  · rfl
  refine GRun.qf2 (v := .ptr 1 1 0 0) rfl rfl (by rfl) (by rfl) (by rfl) ?_
  refine GRun.qf2 (v := .own 0 2 0 2) rfl rfl (by rfl) (by rfl) (by rfl) ?_
  refine GRun.qf2 (v := .lst [z1, z2, z3, z4, z5]) rfl rfl (by rfl) (by rfl) (by rfl) ?_
  refine GRun.q1 (v := .lst [z1, z2]) rfl rfl (fun c hc => ql_slice_lst (es := [z1, z2, z3, z4, z5]) (l := 0) (h := 2) (sz := 6) rfl Try.underlying29 rfl rfl (by decide) (by decide) sz34 (by simp [AV.cells])) ?_
  refine GRun.p1 (v := .own 2 2 0 2) rfl rfl (fun ρ' h => pl_append_nil (ρ := ρ') (H := aH0) (es := [z1, z2]) (h (.const (.slice none 0 0)) (by simp [Op.operands, Call.operands])) (h (.tmp 27) (by simp [Op.operands, Call.operands])) Try.underlying29 el34 (by simp [AV.cells, okCells, isOne]; decide) (by decide) (by decide)) ?_
  refine GRun.qf2 (v := .lst [z1, z2, z3, z4, z5]) rfl rfl (by rfl) (by rfl) (by rfl) ?_
  refine GRun.q1 (v := .lst [z4, z5]) rfl rfl (fun c hc => ql_slice_lst (es := [z1, z2, z3, z4, z5]) (l := 3) (h := 5) (sz := 6) rfl Try.underlying29 rfl rfl (by decide) (by decide) sz34 (by simp [AV.cells])) ?_
  refine GRun.p1 (v := .own 2 4 0 4) rfl rfl (fun ρ' h => pl_append (ρ := ρ') (H := aH0 ++ [⟨34, 6, [z1, z2]⟩]) (b := 2) (tot := 2) (es := [z4, z5]) (h (.tmp 28) (by simp [Op.operands, Call.operands])) (h (.tmp 30) (by simp [Op.operands, Call.operands])) rfl rfl Try.underlying29 el34 rfl rfl (by decide) (by simp [AV.cells, okCells, isOne]; decide) (by decide) (by decide)) ?_
  refine GRun.nil ?_
  refine ARun.q1 rfl rfl (ql_indexAddr_own (b := 0) (tot := 2) (off := 0) (len := 2) rfl rfl Try.underlying22 rfl rfl (by decide) (by decide) sz31) ?_
  show ARun _ _ _ _ _ ⟨_, aH0 ++ [⟨34, 6, [z1, z2, z4, z5]⟩]⟩
  repeat (first
    | with_reducible refine AWp.seq ?_
    | ((with_reducible apply AWp.regionL); (refine ⟨rfl, rfl, ?_⟩; simp (decide := true) only [Nat.reduceAdd, List.map, go_sem]; rfl))
    | with_reducible refine ARun.nil ?_
    | with_reducible refine thenQ_n ?_
    | with_reducible refine thenQ_r ?_
    | with_reducible refine thenQ_e ?_
    | with_reducible refine blkQ_n ?_
    | with_reducible refine blkQ_r ?_
    | with_reducible refine blkQ_e ?_
    | with_reducible refine blkQ_o rfl ?_
    | with_reducible refine AWp.block ?_
    | with_reducible refine AWp.skip ?_
    | with_reducible refine AWp.ret ?_
    | with_reducible refine AWp.exit ?_
    | with_reducible refine retQ_n ?_
    | with_reducible refine retQ_r ?_
    | ((with_reducible apply ARun.go); (simp (decide := true) only [Nat.reduceAdd, go_sem]; rfl); (simp (decide := true) only [Nat.reduceAdd, go_sem]; (repeat simp (decide := true) only [Nat.reduceAdd, go_sem]); rfl))
    | (refine ARun.p1 rfl rfl (pl_box (by simp (decide := true) only [Nat.reduceAdd, go_sem]; rfl) rfl) ?_)
    | (refine ARun.p1 rfl rfl (pl_alloc (by simp only [Nat.reduceAdd, go_sem]; rfl) rfl) ?_)
    | (refine ARun.p1 rfl rfl (pl_store (by simp (decide := true) only [Nat.reduceAdd, go_sem]; rfl) (by simp (decide := true) only [Nat.reduceAdd, go_sem]; rfl) (by simp (decide := true) only [Nat.reduceAdd, go_sem]; rfl) (by rfl) (by rfl) (by kernel_rfl) (by rfl) (by rfl)) ?_)
    | fail)
  refine ARun.gl rfl rfl (by simp (decide := true) only [Nat.reduceAdd, go_sem] <;> rfl) (fun hg => ql_callM (args := [encT aP2]) rfl (by simp (decide := true) only [Nat.reduceAdd, go_sem] <;> rfl) (by simp (decide := true) only [Nat.reduceAdd, go_sem, List.map]; exact ⟨.agg' ⟨.ownL rfl rfl ⟨⟨.pu (.base _), .pu (.base _), .ownL rfl rfl ⟨hz _ _ _ _ _ _, hz _ _ _ _ _ _, hz4 _ _ _ _ _ _, hz _ _ _ _ _ _, trivial⟩, trivial⟩, ⟨.pu (.base _), .pu (.base _), .nilS, trivial⟩, trivial⟩, .nilS, .pu (.base _), trivial⟩, trivial⟩) (.base _) (accepted_ok aP2 h2)) ?_
  repeat (first
    | with_reducible refine AWp.seq ?_
    | ((with_reducible apply AWp.regionL); (refine ⟨rfl, rfl, ?_⟩; simp (decide := true) only [Nat.reduceAdd, List.map, go_sem]; rfl))
    | with_reducible refine ARun.nil ?_
    | with_reducible refine thenQ_n ?_
    | with_reducible refine thenQ_r ?_
    | with_reducible refine thenQ_e ?_
    | with_reducible refine blkQ_n ?_
    | with_reducible refine blkQ_r ?_
    | with_reducible refine blkQ_e ?_
    | with_reducible refine blkQ_o rfl ?_
    | with_reducible refine AWp.block ?_
    | with_reducible refine AWp.skip ?_
    | with_reducible refine AWp.ret ?_
    | with_reducible refine AWp.exit ?_
    | with_reducible refine retQ_n ?_
    | with_reducible refine retQ_r ?_
    | ((with_reducible apply ARun.go); (simp (decide := true) only [Nat.reduceAdd, go_sem]; rfl); (simp (decide := true) only [Nat.reduceAdd, go_sem]; (repeat simp (decide := true) only [Nat.reduceAdd, go_sem]); rfl))
    | (refine ARun.p1 rfl rfl (pl_box (by simp (decide := true) only [Nat.reduceAdd, go_sem]; rfl) rfl) ?_)
    | (refine ARun.p1 rfl rfl (pl_alloc (by simp only [Nat.reduceAdd, go_sem]; rfl) rfl) ?_)
    | (refine ARun.p1 rfl rfl (pl_store (by simp (decide := true) only [Nat.reduceAdd, go_sem]; rfl) (by simp (decide := true) only [Nat.reduceAdd, go_sem]; rfl) (by simp (decide := true) only [Nat.reduceAdd, go_sem]; rfl) (by rfl) (by rfl) (by kernel_rfl) (by rfl) (by rfl)) ?_)
    | fail)
  exact Ret.bool rfl (by simp [e2])
end Go.Ab
