/- Part of the proof. -/
import Derived.Test.YtjfahhbobiiphaaXF
set_option linter.unusedSimpArgs false
set_option linter.unusedVariables false
set_option maxHeartbeats 4000000
namespace Go.Ab
open Go Go.Ab Go.Proofs Go.Ab.Ty

abbrev Tb := Nat → Nat → Bool
def rowL (N : Nat) (g : Nat → Bool) : List Bool := (List.range N).map g
theorem rowL_len (N : Nat) (g : Nat → Bool) : (rowL N g).length = N := by simp [rowL]
def updR (g : Nat → Bool) (j : Nat) (v : Bool) : Nat → Bool := fun b => if b = j then v else g b
def updT (f : Tb) (i j : Nat) (v : Bool) : Tb := fun a b => if a = i ∧ b = j then v else f a b
theorem rowL_set (N : Nat) (g : Nat → Bool) (j : Nat) (v : Bool) : (rowL N g).set j v = rowL N (updR g j v) := by
  apply List.ext_getElem (by simp [rowL])
  intro i h1 h2
  simp only [rowL, List.getElem_set, List.getElem_map, List.getElem_range, updR]
  by_cases h : j = i
  · subst h; simp
  · rw [if_neg h, if_neg (fun e => h e.symm)]
@[reducible] def rowD (N : Nat) (g : Nat → Bool) : AV := .lst ((rowL N g).map AV.bool)
@[reducible] def tabD (N : Nat) (f : Tb) : AV := .lst ((List.range N).map fun i => rowD N (f i))
theorem tabD_congr {N : Nat} {f g : Tb} (h : ∀ i j, i < N → j < N → f i j = g i j) : tabD N f = tabD N g := by
  unfold tabD
  congr 1
  apply List.map_congr_left
  intro i hi
  unfold rowD rowL
  congr 2
  apply List.map_congr_left
  intro j hj
  exact h i j (List.mem_range.1 hi) (List.mem_range.1 hj)
@[simp] theorem Pu_rowD (N : Nat) (g : Nat → Bool) : Pu (rowD N g) := .lst fun e he c hc => by
  obtain ⟨b, _, rfl⟩ := List.mem_map.1 he
  simp [AV.cells] at hc; subst hc; exact .base _
@[simp] theorem Pu_tabD (N : Nat) (f : Tb) : Pu (tabD N f) := .lst fun e he c hc => by
  obtain ⟨i, _, rfl⟩ := List.mem_map.1 he
  simp [rowD, AV.cells] at hc; subst hc; exact Pu_rowD N (f i)
@[go_sem] theorem cells_rowD (N : Nat) (g : Nat → Bool) : (rowD N g).cells = [rowD N g] := rfl
@[go_sem] theorem cells_tabD (N : Nat) (f : Tb) : (tabD N f).cells = [tabD N f] := rfl
attribute [go_sem] List.length_map List.length_range rowL_len
section
variable {P : Program} {H : List ABlk} {ρ : Operand → AV}
theorem ql_tabRow {t el : TypeId} {x i : Operand} {k : IntKind} {n : Int} {N : Nat} {f : Tb} (a : Nat) (hx : ρ x = tabD N f) (hi : ρ i = .base (.int k n)) (ht : P.underlying t = some (.slice el)) (hn : n = a ∧ a < N) (hsz : szTy P el = some 1) :
    QL P H ρ (.indexAddr t x i) (.iptr (rowD N (f a)) 0) := by
  obtain ⟨rfl, hn⟩ := hn
  exact ql_indexAddr_lst hx hi ht (by omega) (by simp [hn]) hsz
theorem ql_tabCell {t el : TypeId} {x i : Operand} {k : IntKind} {n : Int} {N : Nat} {g : Nat → Bool} (a : Nat) (hx : ρ x = rowD N g) (hi : ρ i = .base (.int k n)) (ht : P.underlying t = some (.slice el)) (hn : n = a ∧ a < N) (hsz : szTy P el = some 1) :
    QL P H ρ (.indexAddr t x i) (.iptr (.bool (g a)) 0) := by
  obtain ⟨rfl, hn⟩ := hn
  exact ql_indexAddr_lst hx hi ht (by omega) (by simp [rowL, hn]) hsz
end
def rowB (N : Nat) (g : Nat → Bool) : ABlk := ⟨4, 1, (rowL N g).map AV.bool⟩
def mainB (m N : Nat) : ABlk := ⟨71, 1, (List.range N).map fun i => .own (m + i) N 0 N⟩
def tabH (m N : Nat) (f : Tb) : List ABlk := mainB (m + 1) N :: (List.range N).map fun i => rowB N (f i)
theorem tabH_len (m N : Nat) (f : Tb) : (tabH m N f).length = N + 1 := by simp [tabH]
theorem tab_row {HC HD : List ABlk} {N : Nat} {f : Tb} {m i : Nat} (hm : HC.length = m) (h : i < N) : (HC ++ tabH m N f ++ HD)[m + 1 + i]? = some (rowB N (f i)) := by
  subst hm
  rw [List.append_assoc, List.getElem?_append_right (by omega), List.getElem?_append_left (by rw [tabH_len]; omega), show HC.length + 1 + i - HC.length = i + 1 by omega]
  simp [tabH, h]
theorem tab_set {HC HD : List ABlk} {N : Nat} {f : Tb} {m i j : Nat} {v : Bool} (hm : HC.length = m) (h : i < N) : (HC ++ tabH m N f ++ HD).set (m + 1 + i) (rowB N (updR (f i) j v)) = HC ++ tabH m N (updT f i j v) ++ HD := by
  subst hm
  rw [List.append_assoc, List.set_append_right _ _ (by omega), List.set_append_left _ _ (by rw [tabH_len]; omega), show HC.length + 1 + i - HC.length = i + 1 by omega, List.append_assoc]
  congr 2
  simp only [tabH, List.set_cons_succ]
  congr 1
  apply List.ext_getElem (by simp)
  intro k h1 h2
  simp only [List.getElem_set, List.getElem_map, List.getElem_range]
  split
  · rename_i e
    subst e
    congr 1
    funext b
    simp [updR, updT]
  · rename_i e
    congr 1
    funext b
    simp [updT, Ne.symm e]
end Go.Ab
set_option maxHeartbeats 4000000
namespace Go.Ab
open Go Go.Ab Go.Proofs Go.Ab.Ty

theorem PubR.id {H : List ABlk} (a : AV) : PubR some H a a := fun H2 w0 w O ι ι2 u hs v hu => hu.mono
  ⟨fun _ _ _ h => h, fun p c h _ h2 => h (v.OO h2), fun b blk hb => by
      obtain ⟨blk2, e1, e2, e3, e4⟩ := v.idx b b blk rfl hb
      exact ⟨blk2, e1, Nat.le_of_eq e2.symm, fun _ => ⟨e3, e4⟩⟩,
   fun b x blk blk' c ty fz _ _ _ _ h => ⟨c, ty, fz, h, rfl⟩⟩
theorem RetH.id {P : Program} {rs : List ResultVar} {n : Fr} {d : AV} {H' : List ABlk} {s : ASt} {vs : List AV} (h : resVals P s rs = some vs) (hd : packA vs = d) (hH : s.H = H') : RetH P rs n d H' s :=
  ⟨s, vs, some, fun j => j, .refl s, h, ⟨fun b _ => rfl, fun j hj => ⟨by rw [hH]; exact hj, rfl⟩, fun b j hb hr => by injection hr with hr; subst hr; exact ⟨rfl, by rw [← hH]; exact hb⟩,
    fun j blk blk2 h1 h2 => by
      rw [hH, h2] at h1; injection h1 with h1; subst h1
      exact ⟨rfl, rfl, rfl, fun i e e2 h3 h4 => by
        rw [h3] at h4; injection h4 with h4; subst h4
        exact ⟨rfl, fun k c c2 h5 h6 => by rw [h5] at h6; injection h6 with h6; subst h6; exact .id _⟩⟩⟩, by rw [hd]; exact .id _⟩
theorem PubR_tab {r : Nat → Option Nat} {H : List ABlk} {m N : Nat} {f : Tb} (hH : H[m]? = some (mainB (m + 1) N)) (hrow : ∀ i, i < N → H[m + 1 + i]? = some (rowB N (f i))) (hr : ∀ b, m ≤ b → b ≤ m + N → r b = none) : PubR r H (.own m N 0 N) (tabD N f) := by
  refine PubR.lst (hr m (by omega) (by omega)) hH (by simp [mainB]) (by omega) (by simp) fun i e d hi he hd => ?_
  simp [mainB, hi] at he hd
  subst he; subst hd
  refine ⟨rfl, fun j c c' h1 h2 => ?_⟩
  cases j with
  | succ j => simp [AV.cells] at h1
  | zero =>
    simp [AV.cells] at h1
    simp [rowD, AV.cells] at h2
    subst h1; subst h2
    exact PubR.ownM (f := AV.bool) (hr _ (by omega) (by omega)) (hrow i hi) (rowL_len N (f i)) fun x _ c hc => by
      simp [AV.cells] at hc; subst hc; exact .base _
section
variable {P : Program} {H HC : List ABlk} {ρ : Operand → AV}
theorem pl_callTab {c : Call} {fx : Operand} {fid : FuncId} {caps args : List AV} {N : Nat} {f : Tb} (hf : FnH P fid args [] (.own 0 N 0 N) (tabH 0 N f)) (hc : c.callee = .value fx)
    (hfx : ρ fx = .clo fid caps) (ha : c.args.toList.map ρ ++ caps = args) (hp : ∀ a ∈ args, Pu a) : PL P HC ρ (.call c) (.own HC.length N 0 N) (HC ++ tabH HC.length N f) := by
  refine pl_callH (e := []) hf ?_ hc hfx (by rw [ha]; exact MvL.pu hp) (.own (by simp [rb]))
  refine ⟨List.nodup_nil, rfl, fun j b h => by simp at h, Nat.zero_le _, by simp [tabH_len], fun b hb _ => List.getElem?_append_left hb, fun j c bk h h2 => ?_⟩
  simp [rb] at h; subst h
  rw [List.getElem?_append_right (by omega), Nat.add_sub_cancel_left]
  cases j with
  | zero =>
    simp [tabH] at h2 ⊢
    subst h2
    refine ⟨rfl, rfl, by simp [mainB], fun i e e2 h3 h4 => ?_⟩
    by_cases hi : i < N
    · simp [mainB, hi] at h3 h4
      subst h3; subst h4
      refine ⟨rfl, fun k c c2 h5 h6 => ?_⟩
      cases k with
      | succ k => simp [AV.cells] at h5
      | zero =>
        simp [AV.cells] at h5 h6
        subst h5; subst h6
        exact .own (by simp [rb]; omega)
    · simp [mainB, hi] at h3
  | succ j =>
    by_cases hj : j < N
    · simp [tabH, hj] at h2 ⊢
      subst h2
      refine .pu fun e he c hc => ?_
      obtain ⟨x, _, rfl⟩ := List.mem_map.1 he
      simp [AV.cells] at hc; subst hc; exact .base _
    · simp [tabH, hj] at h2
theorem ql_ownRowAddr {t el : TypeId} {x i : Operand} {k : IntKind} {n : Int} {m N : Nat} (a : Nat) (hx : ρ x = .own m N 0 N) (hi : ρ i = .base (.int k n)) (hH : H[m]? = some (mainB (m + 1) N)) (ht : P.underlying t = some (.slice el)) (hn : n = a ∧ a < N) (hsz : szTy P el = some 1) :
    QL P H ρ (.indexAddr t x i) (.ptr m N a 0) := by
  obtain ⟨rfl, hn⟩ := hn
  have := ql_indexAddr_own hx hi ht hH (by simp [mainB]) (by omega) (by omega) (by simpa [mainB] using hsz)
  simpa using this
theorem ql_ownRow {t : TypeId} {x : Operand} {m N a : Nat} (hx : ρ x = .ptr m N a 0) (hH : H[m]? = some (mainB (m + 1) N)) (ha : a < N) (hagg : aggTy P t = some false) : QL P H ρ (.load t x) (.own (m + 1 + a) N 0 N) := by
  refine ql_fun1 ?_
  simp [qfun, hx, hH, mainB, ha, ldE, hagg, AV.cells]
theorem ql_ownCellAddr {t el : TypeId} {x i : Operand} {k : IntKind} {n : Int} {b N : Nat} {g : Nat → Bool} (a : Nat) (hx : ρ x = .own b N 0 N) (hi : ρ i = .base (.int k n)) (hH : H[b]? = some (rowB N g)) (ht : P.underlying t = some (.slice el)) (hn : n = a ∧ a < N) (hsz : szTy P el = some 1) :
    QL P H ρ (.indexAddr t x i) (.ptr b N a 0) := by
  obtain ⟨rfl, hn⟩ := hn
  have := ql_indexAddr_own hx hi ht hH (by simp [rowB, rowL]) (by omega) (by omega) (by simpa [rowB] using hsz)
  simpa using this
theorem ql_ownCell {t : TypeId} {x : Operand} {b N a : Nat} {g : Nat → Bool} (hx : ρ x = .ptr b N a 0) (hH : H[b]? = some (rowB N g)) (ha : a < N) (hagg : aggTy P t = some false) : QL P H ρ (.load t x) (.bool (g a)) := by
  refine ql_fun1 ?_
  simp [qfun, hx, hH, rowB, rowL, ha, ldE, hagg, AV.cells]
theorem pl_ownCell {t : TypeId} {x y : Operand} {b N a : Nat} {g : Nat → Bool} (v : Bool) (hx : ρ x = .ptr b N a 0) (hy : ρ y = .bool v) (hH : H[b]? = some (rowB N g)) (ha : a < N) (hsz : szTy P t = some 1) : PL P H ρ (.store t x y) .bad (H.set b (rowB N (updR g a v))) := by
  have := pl_store (P := P) (H := H) (ρ := ρ) (t := t) (x := x) (y := y) (e := .bool (g a)) (e' := .bool v) hx hy hH (by simp [rowB, rowL]) (by simp [rowB, rowL, ha]) hsz rfl rfl
  have e : (({ rowB N g with es := (rowB N g).es.set a (.bool v) } : ABlk)) = rowB N (updR g a v) := by
    simp only [rowB]
    congr 1
    rw [← rowL_set]
    exact (List.map_set ..).symm
  rw [e] at this
  exact this
end
def mainPB (N i : Nat) : ABlk := ⟨71, 1, (List.range N).map fun a => if a < i then .own (1 + a) N 0 N else .base (.slice none 0 0)⟩
def partH (N i : Nat) : List ABlk := mainPB N i :: (List.range i).map fun _ => rowB N fun _ => false
theorem partH_0 (N : Nat) : [⟨71, 1, List.replicate N (.base (.slice none 0 0))⟩] = partH N 0 := by
  simp only [partH, mainPB, List.range_zero, List.map_nil]
  congr 2
  apply List.ext_getElem (by simp)
  intro k h1 h2
  simp
theorem partH_N (N : Nat) : partH N N = tabH 0 N fun _ _ => false := by
  simp only [partH, tabH, mainPB, mainB]
  congr 2
  apply List.map_congr_left
  intro a ha
  rw [if_pos (List.mem_range.1 ha), Nat.zero_add]
@[go_sem] theorem part_get (N i : Nat) : (partH N i)[0]? = some (mainPB N i) := rfl
@[go_sem] theorem mainPB_len (N i : Nat) : ((mainPB N i).es.length == N) = true := by simp [mainPB]
@[go_sem] theorem tab_get (m N : Nat) (f : Tb) : (tabH m N f)[0]? = some (mainB (m + 1) N) := rfl
@[go_sem] theorem tab_getA (m N : Nat) (f : Tb) (l : List ABlk) : (tabH m N f ++ l)[0]? = some (mainB (m + 1) N) := rfl
@[go_sem] theorem mainB_len (m N : Nat) : ((mainB m N).es.length == N) = true := by simp [mainB]
theorem tab_row0 {HC : List ABlk} {N : Nat} {f : Tb} {m i : Nat} (hm : HC.length = m) (h : i < N) : (HC ++ tabH m N f)[m + 1 + i]? = some (rowB N (f i)) := by
  have := tab_row (HD := []) (f := f) hm h
  rwa [List.append_nil] at this
theorem tab_set0 {HC : List ABlk} {N : Nat} {f : Tb} {m i j : Nat} {v : Bool} (hm : HC.length = m) (h : i < N) : (HC ++ tabH m N f).set (m + 1 + i) (rowB N (updR (f i) j v)) = HC ++ tabH m N (updT f i j v) := by
  have := tab_set (HD := []) (f := f) (j := j) (v := v) hm h
  rwa [List.append_nil, List.append_nil] at this
theorem tab_row00 {N : Nat} {f : Tb} {i : Nat} (h : i < N) : (tabH 0 N f)[1 + i]? = some (rowB N (f i)) := tab_row0 (HC := []) rfl h
theorem tab_set00 {N : Nat} {f : Tb} {i j : Nat} {v : Bool} (h : i < N) : (tabH 0 N f).set (1 + i) (rowB N (updR (f i) j v)) = tabH 0 N (updT f i j v) := tab_set0 (HC := []) rfl h
theorem partH_len (N i : Nat) : (partH N i).length = i + 1 := by simp [partH]
theorem partH_step {N i : Nat} (h : i < N) : (partH N i ++ [rowB N fun _ => false]).set 0 { mainPB N i with es := (mainPB N i).es.set i (.own (i + 1) N 0 N) } = partH N (i + 1) := by
  simp only [partH, List.cons_append, List.set_cons_zero, List.range_succ, List.map_append, List.map_cons, List.map_nil]
  congr 1
  simp only [mainPB]
  congr 1
  apply List.ext_getElem (by simp)
  intro k h1 h2
  simp only [List.getElem_set, List.getElem_map, List.getElem_range]
  split
  · rename_i e; subst e
    rw [if_pos (by omega), Nat.add_comm]
  · rename_i e
    by_cases hk : k < i
    · rw [if_pos hk, if_pos (by omega)]
    · rw [if_neg hk, if_neg (by omega)]
theorem rep_row (N : Nat) : (⟨4, 1, List.replicate N (.base (.bool false))⟩ : ABlk) = rowB N fun _ => false := by
  simp only [rowB, rowL]
  congr 1
  apply List.ext_getElem (by simp)
  intro k h1 h2
  simp
theorem none_ok (n : Nat) (hn : n ≤ 1000) : FnH Try.prog 115 [.int n] [] (.own 0 (n + 1) 0 (n + 1)) (tabH 0 (n + 1) fun _ _ => false) := by
  refine FnH.intro' [(0, .int n)] 1 21 0 Try.func115 (by kernel_rfl) rfl rfl rfl rfl rfl rfl ?_
  refine goD ?_
  rw [wrap_succ (by omega)]
  refine zp rfl rfl (pl_make rfl rfl Try.underlying68 el71 zero71 rfl (by omega) (by omega) (by omega) (by omega)) ?_
  simp only [List.nil_append, Int.toNat_natCast, List.length_nil]
  rw [partH_0]
  refine goD ?_
  refine AWp.loopH (J := fun i : Nat => i ≤ n + 1) (fun i => [(10, .int i)]) (fun i => partH (n + 1) i) (fun i => n + 1 - i) 0 (Nat.zero_le _) .wk ?_
  rintro i hi
  refine goD ?_
  refine ifA (fun hd => ?_) (fun hd => ?_)
  · simp at hd
    refine goD ?_
    rw [wrap_succ (by omega)]
    refine zp rfl rfl (pl_make rfl rfl Try.underlying71 el4 zero4 rfl (by omega) (by omega) (by omega) (by omega)) ?_
    simp only [Int.toNat_natCast, partH_len, rep_row]
    have hi2 : i < n + 1 := by omega
    refine goD ?_
    refine ARun.q1 rfl rfl (ql_indexAddr_own rfl rfl Try.underlying68 (by rfl) (by simp [mainPB]) (by omega) (by omega) (by kernel_rfl)) ?_
    refine goD ?_
    refine zp rfl rfl (pl_store (e := .base (.slice none 0 0)) (e' := .own (i + 1) (n + 1) 0 (n + 1)) (by simp +decide only [go_sem] <;> rfl) (by simp +decide only [go_sem] <;> rfl) (by rfl) (by simp [mainPB]) (by simp [mainPB, hi2]) (by kernel_rfl) rfl (by rfl)) ?_
    rw [partH_step hi2]
    refine goD ?_
    rw [wrap_succ (by omega)]
    exact ⟨i + 1, by omega, by omega, .wk⟩
  simp at hd
  refine goD ?_
  obtain rfl : i = n + 1 := by omega
  exact RetH.id rfl rfl (partH_N (n + 1))
end Go.Ab
