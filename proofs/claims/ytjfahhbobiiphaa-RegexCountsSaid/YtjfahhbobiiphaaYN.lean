/- Part of the proof. -/
import Derived.Test.YtjfahhbobiiphaaYM
import Derived.Test.YtjfahhbobiiphaaYK
import Derived.Test.YtjfahhbobiiphaaXYa
import Derived.Test.YtjfahhbobiiphaaAbO
import Derived.Test.YtjfahhbobiiphaaAbI
set_option linter.unusedSimpArgs false
set_option linter.unusedVariables false
set_option maxHeartbeats 4000000
namespace Go.Ab
open Go Go.Ab Go.Proofs Go.Ab.Ty

theorem bstrK_ok (u : Bool) (l : List UInt8) (bt : TypeId) (hbt : bt = 5 ∨ bt = frzM 5) (hl : l.length ≤ 1000000) : FnH Try.prog 72 [.ptr 0 1 0 0] [bS u l.length, ⟨bt, 1, l.map AV.u8⟩] (str ⟨l.toArray⟩) [bS u l.length, ⟨if l.length = 0 then bt else frzM 5, 1, l.map AV.u8⟩] := by
  refine FnH.intro' [(0, .ptr 0 1 0 0)] 1 14 2 Try.func72 (by kernel_rfl) rfl rfl rfl rfl rfl rfl ?_
  refine goD ?_
  refine drA (k := 10) follows (hr := ?_)
  refine goD ?_
  refine ARun.q1t rfl rfl (ql_sliceDataK rfl rfl (by simp) Try.underlying126) ?_
  refine goD ?_
  refine ARun.p1 rfl rfl (pl_unsafeStringK rfl rfl rfl rfl (Nat.le_trans hl (by decide)) Try.underlying126 (by kernel_rfl) (hbt.imp (fun h => ⟨h, by decide⟩) id)) ?_
  refine goD ?_
  exact RetH.same rfl rfl (by by_cases h : l.length = 0 <;> simp [h, bS, bldS, pA, frzK])
noncomputable def kb (x : UInt8) (S : ByteArray) : UInt8 := open Classical in if isIn S x then 49 else 48
noncomputable def keyB (Ss : List ByteArray) (i : Nat) : List UInt8 := Ss.map (kb (UInt8.ofNat (32 + i)))
def setsC (cs : List Cx) : List ByteArray := (cs.map (·.b)).flatten
abbrev mcG (G : List Int) : ABlk := ⟨105, 97, [.agg (G.map AV.int ++ [.base (.slice none 0 0), .base (.slice none 0 0)])]⟩
abbrev stV (s : ByteArray) : Value := .string s
abbrev mpB (m : List (ByteArray × Int)) : ABlk := mapB stV AV.int m
abbrev bu (i : Nat) : AV := AV.u8 (UInt8.ofNat (32 + i))
abbrev fsB (l : List Nat) : ABlk := ⟨5, 1, l.map bu⟩
def grpG (K : Nat → List UInt8) (i : Nat) : List Int := ((List.range i).map fun j => (grN K j : Int)) ++ List.replicate (95 - i) 0
theorem grpG_len (K : Nat → List UInt8) {i : Nat} (h : i ≤ 95) : (grpG K i).length = 95 := by simp [grpG]; omega
theorem PuB_mcG (G : List Int) : ∀ e ∈ (mcG G).es, ∀ c ∈ e.cells, Pu c := fun e he c hc => by
  rw [List.mem_singleton] at he; subst he
  simp only [AV.cells, List.mem_append, List.mem_map, List.mem_cons, List.not_mem_nil, or_false] at hc
  rcases hc with ⟨x, _, rfl⟩ | rfl | rfl <;> exact .base _
theorem PuB_mpB (m : List (ByteArray × Int)) : ∀ e ∈ (mpB m).es, ∀ c ∈ e.cells, Pu c := fun e he c hc => by
  simp only [mpB, mapB, List.mem_singleton] at he; subst he
  simp only [AV.cells, List.mem_cons, List.not_mem_nil, or_false] at hc
  rcases hc with rfl | rfl
  · exact .agg fun c hc => by obtain ⟨x, _, rfl⟩ := List.mem_map.1 hc; exact .base _
  · exact .agg fun c hc => by obtain ⟨x, _, rfl⟩ := List.mem_map.1 hc; exact .base _
theorem PuB_fsB (l : List Nat) : ∀ e ∈ (fsB l).es, ∀ c ∈ e.cells, Pu c := fun e he c hc => by
  obtain ⟨x, _, rfl⟩ := List.mem_map.1 he
  simp only [AV.cells, List.mem_singleton] at hc; subst hc; exact .base _
abbrev grH (K : Nat → List UInt8) (k : Nat) : List ABlk := [mcG (grpG K k), mpB (mpN K bsL k), fsB (fsN K k)]
theorem PuBl_grH (K : Nat → List UInt8) (k : Nat) : PuBl (grH K k) := .cons (PuB_mcG _) (.cons (PuB_mpB _) (.cons (PuB_fsB _) .nil))
@[simp] theorem Pu_cxL (cs : List Cx) : Pu (.lst (cs.map encCx)) := .lst fun e he c hc => by
  obtain ⟨x, hx, rfl⟩ := List.mem_map.1 he
  exact Pu_cxs x hx c hc
theorem u8_let {k : Nat} (h : k < 95) : IntKind.u8.wrap (IntKind.i64.wrap (32 + (k : Int))) = ((UInt8.ofNat (32 + k)).toNat : Int) := by
  rw [wrap_id (by omega) (by omega)]
  simp [IntKind.wrap, IntKind.signed, IntKind.bits]
theorem setsC_take {cs : List Cx} {j : Nat} (h : j < cs.length) : setsC (cs.take (j + 1)) = setsC (cs.take j) ++ cs[j].b := by
  unfold setsC
  rw [List.take_succ_eq_append_getElem h, List.map_append, List.flatten_append]; simp
theorem setsC_le (cs : List Cx) (j : Nat) : (setsC (cs.take j)).length ≤ (setsC cs).length := by
  unfold setsC
  conv => rhs; rw [← List.take_append_drop j cs]
  rw [List.map_append, List.flatten_append, List.length_append]; omega
abbrev grB (u : Bool) (L : List UInt8) : List ABlk := [bldS 82 (pA u 3) 4 L.length, bldB 5 L]
attribute [go_sem] Option.map_some Option.map_none Option.getD_some Option.getD_none Option.isSome_some Option.isSome_none Bool.not_true Bool.not_false
theorem grpG_set (K : Nat → List UInt8) {k : Nat} (h : k < 95) : (grpG K k).set k (grN K k : Int) = grpG K (k + 1) := by
  unfold grpG
  rw [List.set_append_right _ _ (by simp), List.length_map, List.length_range, Nat.sub_self, List.range_succ, List.map_append, show 95 - k = (95 - (k + 1)) + 1 by omega, List.replicate_succ, List.set_cons_zero]
  simp
theorem mcG_set (K : Nat → List UInt8) {k : Nat} (h : k < 95) : stE (.agg ((grpG K k).map AV.int ++ [.base (.slice none 0 0), .base (.slice none 0 0)])) k [AV.int (grN K k)] = some (.agg ((grpG K (k + 1)).map AV.int ++ [.base (.slice none 0 0), .base (.slice none 0 0)])) := by
  have hl := grpG_len K (Nat.le_of_lt h)
  unfold stE
  simp only [List.length_append, List.length_map, List.length_cons, List.length_nil]
  rw [if_pos (by omega), List.set_append_left _ _ (by rw [List.length_map]; omega), ← grpG_set K h, List.map_set]
theorem ql_ixG {H : List ABlk} {ρ : Operand → AV} {x y : Operand} {k : Nat} (hx : ρ x = .ptr 0 1 0 0) (hf : fresh H 0 1 = true) (hy : ρ y = .int k) (h : k < 95) : QL Try.prog H ρ (.indexAddr 102 x y) (.ptr 0 1 0 k) := by
  have := ql_indexAddr_ptr (P := Try.prog) (H := H) (ρ := ρ) (t := 102) (x := x) (i := y) (k := .i64) (n := (k : Int)) (b := 0) (tot := 1) (i0 := 0) (off := 0) (len := 95) (sz := 1) (el := 3) hx hf hy Try.underlying102 (by omega) (by omega) sz3
  simpa using this
theorem pl_stG {H : List ABlk} {ρ : Operand → AV} {x y : Operand} {K : Nat → List UInt8} {k : Nat} (hx : ρ x = .ptr 0 1 0 k) (hy : ρ y = .int (grN K k)) (hb : H[0]? = some (mcG (grpG K k))) (h : k < 95) : PL Try.prog H ρ (.store 3 x y) .bad (H.set 0 (mcG (grpG K (k + 1)))) :=
  pl_store (b := 0) (tot := 1) (i := 0) (off := k) (blk := mcG (grpG K k)) (v := .int (grN K k)) hx hy hb rfl rfl sz3 rfl (mcG_set K h)
theorem PuBl_grX (K : Nat → List UInt8) (k : Nat) (G : List Int) (m : List (ByteArray × Int)) : PuBl [mcG G, mpB m, fsB (fsN K k)] := .cons (PuB_mcG _) (.cons (PuB_mpB _) (.cons (PuB_fsB _) .nil))
theorem selG {n : Nat} (b : Nat) (h : b < (⟨n, 1⟩ : Fr).m) : ([0] : List Nat)[b]? = some b := by
  match b, h with
  | 0, _ => rfl
theorem groups_ok (cs : List Cx) (hcs : cs.length ≤ 900) (hb : (setsC cs).length ≤ 900) : FnH Try.prog 134 [.ptr 0 1 0 0, .lst (cs.map encCx)] [mcG (List.replicate 95 0)] (.lst ((fsN (keyB (setsC cs)) 95).map bu)) [mcG (grpG (keyB (setsC cs)) 95)] := by
  obtain ⟨K, hK⟩ : ∃ K, K = keyB (setsC cs) := ⟨_, rfl⟩
  rw [← hK]
  refine FnH.intro' [(0, .ptr 0 1 0 0), (1, .lst (cs.map encCx))] 2 71 1 Try.func134 (by kernel_rfl) rfl rfl rfl rfl rfl rfl ?_
  refine goD ?_
  refine ARun.p1 rfl rfl (pl_makeMap stV AV.int) ?_
  refine goD ?_
  refine AWp.weaken (Wk.nil (E2 := [(0, .ptr 0 1 0 0), (1, .lst (cs.map encCx)), (5, .mapv 1), (6, .own 2 0 0 0), (17, .int 0)]) 5 1 (by simp +decide [lk, putE, cut, Le.refl])) ?_
  refine AWp.loop (J := fun k : Nat => k ≤ 95) (fun k => ⟨[(0, .ptr 0 1 0 0), (1, .lst (cs.map encCx)), (5, .mapv 1), (6, .own 2 (fsN K k).length 0 (fsN K k).length), (17, .int k)], grH K k⟩) (fun k => 95 - k) 0 (Nat.zero_le _) .wf ?_
  intro k hk
  refine goD ?_
  refine ifA (fun hc => ?_) (fun hc => ?_)
  · simp at hc
    have hc : k < 95 := by omega
    refine goD ?_
    rw [u8_let hc]
    obtain ⟨x, hx⟩ : ∃ x, x = UInt8.ofNat (32 + k) := ⟨_, rfl⟩
    rw [← hx]
    refine AWp.weaken (Wk.bld (H1 := grH K k) (E2 := [(0, .ptr 0 1 0 0), (1, .lst (cs.map encCx)), (5, .mapv 1), (6, .own 2 (fsN K k).length 0 (fsN K k).length), (7, .int k), (8, AV.u8 x), (9, .ptr 3 1 0 0), (17, .int k), (23, .lst (cs.map encCx)), (24, .int cs.length), (25, .int 0)]) 82 5 (PuBl_grH K k) ?_) ?_
    · exact ⟨.ptr, .pu (Pu_cxL cs), .mv (.mapv rfl), .own, .pu (.base _), .pu (.base _), .ptr, .pu (.base _), .pu (Pu_cxL cs), .pu (.base _), .pu (.base _), trivial⟩
    refine AWp.loop (J := fun y : Nat × Bool => y.1 ≤ cs.length) (fun y => ⟨[(0, .ptr 0 1 0 0), (1, .lst (cs.map encCx)), (5, .mapv 1), (6, .own 2 (fsN K k).length 0 (fsN K k).length), (7, .int k), (8, AV.u8 x), (9, .ptr 3 1 0 0), (17, .int k), (23, .lst (cs.map encCx)), (24, .int cs.length), (25, .int y.1)], grH K k ++ grB y.2 ((setsC (cs.take y.1)).map (kb x))⟩) (fun y => cs.length - y.1) (0, false) (Nat.zero_le _) (.wf (by simp only [grH, grB, setsC, List.take_zero, List.map_nil, List.flatten_nil, List.cons_append, List.nil_append, List.length_nil]; rfl)) ?_
    rintro ⟨j, u⟩ hj
    simp only at hj
    simp only [grH, grB, List.cons_append, List.nil_append]
    generalize hL0 : (setsC (cs.take j)).map (kb x) = L0
    refine goD ?_
    refine ifA (fun hj2 => ?_) (fun hj2 => ?_)
    · simp at hj2
      have hidx : (cs.map encCx)[j]? = some (encCx cs[j]) := by rw [List.getElem?_map, List.getElem?_eq_getElem hj2]; rfl
      have hst := setsC_take hj2
      have hlej := setsC_le cs (j + 1)
      rw [hst, List.length_append] at hlej
      generalize cs[j] = c at *
      generalize setsC (cs.take j) = P1 at *
      rw [encCx] at hidx
      refine goD ?_
      refine ARun.q1 rfl rfl (ql_indexAddr_lst rfl rfl Try.underlying155 (by omega) (e := .iptr (cxA c) 0) (by simpa using hidx) (by kernel_rfl)) ?_
      refine goD ?_
      refine keF [0, 1, 5, 6, 7, 8, 9, 17, 23, 24, 25, 32, 33, 34] ?_
      refine AWp.loop (J := fun y : Nat × Bool => y.1 ≤ c.b.length) (fun y => ⟨[(0, .ptr 0 1 0 0), (1, .lst (cs.map encCx)), (5, .mapv 1), (6, .own 2 (fsN K k).length 0 (fsN K k).length), (7, .int k), (8, AV.u8 x), (9, .ptr 3 1 0 0), (17, .int k), (23, .lst (cs.map encCx)), (24, .int cs.length), (25, .int j), (32, .lst (c.b.map str)), (33, .int c.b.length), (34, .int y.1)], grH K k ++ grB y.2 ((P1 ++ c.b.take y.1).map (kb x))⟩) (fun y => c.b.length - y.1) (0, u) (Nat.zero_le _) (.wf (by simp only [grH, grB, bldS, pA, bldB, List.take_zero, List.append_nil, hL0, List.cons_append, List.nil_append])) ?_
      rintro ⟨q, v⟩ hq
      simp only at hq
      simp only [grH, grB, List.cons_append, List.nil_append]
      generalize hL : (P1 ++ c.b.take q).map (kb x) = L
      refine goD ?_
      refine ifA (fun hq2 => ?_) (fun hq2 => ?_)
      · simp at hq2
        refine goD ?_
        rw [nthDS c.b q]
        refine callA (indexByte_ok (c.b.getD q ByteArray.empty) x) ?_
        have hlen : L.length ≤ 900 := by rw [← hL]; simp; omega
        have hnx : (P1 ++ c.b.take (q + 1)).map (kb x) = L ++ [kb x (c.b.getD q ByteArray.empty)] := by
          rw [← hL, List.take_succ_eq_append_getElem hq2, List.getD_eq_getElem?_getD, List.getElem?_eq_getElem hq2]
          simp only [List.map_append, List.map_cons, List.map_nil, List.append_assoc, Option.getD_some]
        generalize hS : c.b.getD q ByteArray.empty = S at *
        refine goD ?_
        refine ifA (fun hi => ?_) (fun hi => ?_)
        · have hkb : kb x S = 49 := if_pos ((ixB_ge _ _).1 (of_decide_eq_true hi))
          refine goD ?_
          refine ARun.p1 rfl rfl (pl_callBld (b := 3) (c := 4) (writeByte_ok v L 49 (by omega)) rfl rfl (by decide) (PuB_bld _ _) (PuB_bld _ _) rfl rfl rfl rfl rfl (by simp) (.base _)) ?_
          refine goD ?_
          rw [wrap_succ (by omega)]
          refine ⟨(q + 1, true), hq2, by simp only; omega, ?_⟩
          simp only [hnx, hkb, grH, grB, List.cons_append, List.nil_append]
          exact .wf (by simp only [bldS, bldB, pA, if_true])
        · have hkb : kb x S = 48 := if_neg (fun h => absurd ((ixB_ge _ _).2 h) (of_decide_eq_false hi))
          refine goD ?_
          refine ARun.p1 rfl rfl (pl_callBld (b := 3) (c := 4) (writeByte_ok v L 48 (by omega)) rfl rfl (by decide) (PuB_bld _ _) (PuB_bld _ _) rfl rfl rfl rfl rfl (by simp) (.base _)) ?_
          refine goD ?_
          rw [wrap_succ (by omega)]
          refine ⟨(q + 1, true), hq2, by simp only; omega, ?_⟩
          simp only [hnx, hkb, grH, grB, List.cons_append, List.nil_append]
          exact .wf (by simp only [bldS, bldB, pA, if_true])
      simp at hq2
      obtain rfl : q = c.b.length := by omega
      rw [List.take_length] at hL
      refine goD ?_
      rw [wrap_succ (by omega)]
      refine ⟨(j + 1, v), hj2, by simp only; omega, ?_⟩
      simp only [hst, hL, grH, grB, List.cons_append, List.nil_append]
      exact .wf (by simp only [bldS, bldB, pA, hL])
    simp at hj2
    obtain rfl : j = cs.length := by omega
    rw [List.take_length] at hL0
    have hkey : K k = L0 := by rw [← hL0, hK, hx]; rfl
    have hlen : L0.length ≤ 900 := by rw [← hL0]; simp; omega
    have hinj : ∀ a b : List UInt8, bsL a = bsL b → a = b := fun a b h => by have := congrArg (fun s : ByteArray => s.data.toList) h; simpa using this
    have hg1 : K k ∈ (fsN K k).map K → getM (mpN K bsL k) (bsL (K k)) = some ((grN K k : Nat) : Int) := fun h => by rw [mpN_get K bsL hinj, if_pos h, grN_old K k h]
    have hg2 : ¬ K k ∈ (fsN K k).map K → getM (mpN K bsL k) (bsL (K k)) = none := fun h => by rw [mpN_get K bsL hinj, if_neg h]
    have hfl := fsN_len K k
    rw [hkey] at hg1 hg2
    refine goD ?_
    refine ARun.p1 rfl rfl (pl_callBld (b := 3) (c := 4) (bstrK_ok u L0 5 (.inl rfl) (by omega)) rfl rfl (by decide) (PuB_bld _ _) (fun e he c hc => PuB_bld 5 L0 e he c hc) rfl rfl rfl rfl rfl (by simp) (.base _)) ?_
    refine goD ?_
    refine ARun.q1 rfl rfl (ql_lookupOk (enc := stV) (f := AV.int) (m := mpN K bsL k) (bsL L0) (by simp +decide only [go_sem] <;> rfl) (by simp +decide only [go_sem] <;> rfl) rfl Try.underlying167 Try.underlying9 KeyEnc.str zero3) ?_
    by_cases hm : K k ∈ (fsN K k).map K
    · rw [hkey] at hm
      rw [hg1 hm]
      refine goD ?_
      refine iff_ ?_
      refine goD ?_
      refine ARun.q1 rfl rfl (ql_ixG (k := k) (by simp +decide only [go_sem] <;> rfl) rfl (by simp +decide only [go_sem] <;> rfl) hc) ?_
      refine ARun.p1 rfl rfl (pl_stG (K := K) (k := k) (by simp +decide only [go_sem] <;> rfl) (by simp +decide only [go_sem] <;> rfl) rfl hc) ?_
      refine goD ?_
      rw [wrap_succ (by omega)]
      refine ⟨k + 1, by omega, by omega, ?_⟩
      have e1 := mpN_old K bsL k (by rw [hkey]; exact hm)
      have e2 : fsN K (k + 1) = fsN K k := by rw [fsN, if_pos (by rw [hkey]; exact hm)]
      simp only [grH, e1, e2]
      exact .tf 3 (pubB (PuBl_grX K k _ _))
    · have hm' := hm
      rw [hkey] at hm
      rw [hg2 hm]
      refine goD ?_
      refine ift_ ?_
      refine goD ?_
      refine ARun.p1 rfl rfl (pl_callBld (b := 3) (c := 4) (bstrK_ok u L0 (if L0.length = 0 then 5 else frzM 5) (by split; exact .inl rfl; exact .inr rfl) (by omega)) rfl rfl (by decide) (fun e he c hc => PuB_bld 5 L0 e he c hc) (fun e he c hc => PuB_bld 5 L0 e he c hc) rfl rfl rfl rfl rfl (by simp) (.base _)) ?_
      refine goD ?_
      refine ARun.p1 rfl rfl (pl_mapUpdate stV AV.int (m := mpN K bsL k) (bsL L0) ((fsN K k).length : Int) (by simp +decide only [go_sem] <;> rfl) (by simp +decide only [go_sem] <;> rfl) (by simp +decide only [go_sem] <;> rfl) rfl Try.underlying167 Try.underlying9 KeyEnc.str) ?_
      refine goD ?_
      have e1 := mpN_new K bsL hinj k hm'
      rw [hkey] at e1
      have e2 : fsN K (k + 1) = fsN K k ++ [k] := by rw [fsN, if_neg hm']
      have e3 := grN_new K k hm'
      refine ARun.p1 rfl rfl (pl_append (b := 2) (tot := (fsN K k).length) (es := [.u8 x]) (by simp +decide only [go_sem] <;> rfl) (by simp +decide only [go_sem] <;> rfl) rfl (by simp) Try.underlying32 el5 rfl rfl (by simp) (fun e he => by rw [List.mem_singleton] at he; subst he; exact ⟨rfl, rfl⟩) (by simp; omega) (by simp; omega)) ?_
      rw [show (fsN K k).map bu ++ [.u8 x] = (fsN K (k + 1)).map bu by rw [e2, List.map_append, hx]; rfl, ← e1]
      refine goD ?_
      rw [← e3]
      refine ARun.q1 rfl rfl (ql_ixG (k := k) (by simp +decide only [go_sem] <;> rfl) rfl (by simp +decide only [go_sem] <;> rfl) hc) ?_
      refine ARun.p1 rfl rfl (pl_stG (K := K) (k := k) (by simp +decide only [go_sem] <;> rfl) (by simp +decide only [go_sem] <;> rfl) rfl hc) ?_
      refine goD ?_
      rw [wrap_succ (by omega)]
      refine ⟨k + 1, by omega, by omega, ?_⟩
      have e4 : (fsN K (k + 1)).length = (fsN K k).length + 1 := by rw [e2]; simp
      simp only [grH, e4, ← e3]
      exact .tf 3 (pubB (PuBl_grX K (k + 1) _ _))
  simp at hc
  obtain rfl : k = 95 := by omega
  refine goD ?_
  exact RetH.of (vs := [.own 2 (fsN K 95).length 0 (fsN K 95).length]) [0] (by kernel_rfl) (by decide) (fun b hb => selG b hb) ⟨⟨_, rfl, .pu (PuB_mcG _)⟩, trivial⟩ (.ownM (f := bu) (l := fsN K 95) (by decide) rfl rfl (fun x _ c hc => by simp only [AV.cells, List.mem_singleton] at hc; subst hc; exact .base _))
end Go.Ab
set_option maxHeartbeats 4000000
namespace Go.Ab
open Go Go.Ab Go.Proofs Go.Ab.Ty

def by8 (s : B64) (k : Nat) : UInt8 := UInt8.ofNat (s >>> (8 * k)).toNat
def key8 (s : B64) : List UInt8 := (List.range 8).map (by8 s)
def keyO (l : List B64) : List UInt8 := (l.map key8).flatten
theorem by8_inj {s t : B64} (h : ∀ k, k < 8 → by8 s k = by8 t k) : s = t := by
  refine BitVec.eq_of_getLsbD_eq fun i hi => ?_
  have h1 := congrArg UInt8.toNat (h (i / 8) (by omega))
  unfold by8 at h1
  rw [UInt8.toNat_ofNat', UInt8.toNat_ofNat'] at h1
  have h2 := congrArg (fun n : Nat => n.testBit (i % 8)) h1
  simp only [Nat.testBit_mod_two_pow] at h2
  rw [decide_eq_true (by omega : i % 8 < 8)] at h2
  simp only [Bool.true_and] at h2
  have h3 : ∀ x : B64, (x >>> (8 * (i / 8))).toNat.testBit (i % 8) = x.getLsbD i := fun x => by
    rw [← BitVec.getLsbD, BitVec.getLsbD_ushiftRight]
    congr 1; omega
  rw [h3, h3] at h2
  exact h2
theorem key8_inj {s t : B64} (h : key8 s = key8 t) : s = t := by8_inj fun k hk => by
  have := congrArg (fun l : List UInt8 => l[k]?) h
  simp only [key8, List.getElem?_map, List.getElem?_range hk, Option.map_some, Option.some.injEq] at this
  exact this
theorem keyO_inj : ∀ a b : List B64, keyO a = keyO b → a = b
  | [], [], _ => rfl
  | [], t :: b, h => by
    have := congrArg List.length h
    simp [keyO, key8] at this <;> omega
  | s :: a, [], h => by
    have := congrArg List.length h
    simp [keyO, key8] at this <;> omega
  | s :: a, t :: b, h => by
    have h1 : key8 s ++ keyO a = key8 t ++ keyO b := h
    have h2 := List.append_inj h1 (by simp [key8])
    rw [key8_inj h2.1, keyO_inj a b h2.2]
theorem keyO_len (l : List B64) : (keyO l).length = 8 * l.length := by
  induction l with
  | nil => rfl
  | cons s l ih =>
    have : keyO (s :: l) = key8 s ++ keyO l := rfl
    rw [this, List.length_append, ih]; simp [key8]; omega
theorem keyO_take {l : List B64} {j : Nat} (h : j < l.length) : keyO (l.take (j + 1)) = keyO (l.take j) ++ key8 l[j] := by
  unfold keyO
  rw [List.take_succ_eq_append_getElem h, List.map_append, List.flatten_append]; simp
theorem u8_of (x : B64) : IntKind.wrap .u8 (x.toNat : Int) = ((UInt8.ofNat x.toNat).toNat : Int) := by
  rw [UInt8.toNat_ofNat']
  simp [IntKind.wrap, IntKind.signed, IntKind.bits]
attribute [go_sem] u8_of
abbrev u6s (l : List B64) : AV := .lst (l.map u6)
theorem keyOf_ok (l : List B64) (hl : l.length ≤ 900) : Fn Try.prog 135 [u6s l] (str (bsL (keyO l))) := by
  refine Fn.intro' [(0, u6s l)] 1 32 Try.func135 (by kernel_rfl) rfl rfl rfl rfl rfl ?_
  refine goB ?_
  rw [wrap_id (by omega) (by omega)]
  refine ARun.p1 rfl rfl (pl_make (by simp +decide only [go_sem] <;> rfl) (by simp +decide only [go_sem] <;> rfl) Try.underlying32 el5 zero5 rfl (by omega) (by omega) (by omega) (by omega)) ?_
  refine goB ?_
  refine AWp.loop (J := fun j : Nat => j ≤ l.length) (fun j => ⟨[(0, u6s l), (3, .own 0 (keyO (l.take j)).length 0 (keyO (l.take j)).length), (11, u6s l), (12, .int l.length), (13, .int j)], [⟨5, 1, (keyO (l.take j)).map AV.u8⟩]⟩) (fun j => l.length - j) 0 (Nat.zero_le _) .wf ?_
  intro j hj
  refine goB ?_
  refine ifA (fun hc => ?_) (fun hc => ?_)
  · simp at hc
    refine goB ?_
    rw [nthD6, show l.getD j 0 = l[j] by rw [List.getD_eq_getElem?_getD, List.getElem?_eq_getElem hc]; rfl]
    have hst := keyO_take hc
    have hln := keyO_len (l.take j)
    rw [List.length_take] at hln
    generalize l[j] = s at *
    generalize keyO (l.take j) = L at *
    refine AWp.loop (J := fun k : Nat => k ≤ 8) (fun k => ⟨[(0, u6s l), (3, .own 0 (L ++ (List.range k).map (by8 s)).length 0 (L ++ (List.range k).map (by8 s)).length), (5, u6 s), (11, u6s l), (12, .int l.length), (13, .int j), (17, .int k)], [⟨5, 1, (L ++ (List.range k).map (by8 s)).map AV.u8⟩]⟩) (fun k => 8 - k) 0 (Nat.zero_le _) (by simp only [List.range_zero, List.map_nil, List.append_nil]; exact .wf) ?_
    intro k hk
    have hs2 : L ++ (List.range (k + 1)).map (by8 s) = (L ++ (List.range k).map (by8 s)) ++ [by8 s k] := by
      rw [List.range_succ, List.map_append, List.append_assoc]; rfl
    have hL2 : (L ++ (List.range k).map (by8 s)).length ≤ 8000 := by simp; omega
    generalize hLk : L ++ (List.range k).map (by8 s) = Lk at *
    refine goB ?_
    refine ifA (fun hc2 => ?_) (fun hc2 => ?_)
    · simp at hc2
      have hw : IntKind.i64.wrap (8 * (k : Int)) = ((8 * k : Nat) : Int) := by rw [wrap_id (by omega) (by omega)]; omega
      refine goB ?_
      rw [hw]
      simp +decide only [go_sem]
      refine goB ?_
      refine ARun.p1 rfl rfl (pl_append (b := 0) (tot := Lk.length) (es := [.u8 (by8 s k)]) rfl rfl rfl (by simp) Try.underlying32 el5 rfl rfl (by simp) (fun e he => by rw [List.mem_singleton] at he; subst he; exact ⟨rfl, rfl⟩) (by simp; omega) (by simp; omega)) ?_
      rw [show Lk.map AV.u8 ++ [.u8 (by8 s k)] = (Lk ++ [by8 s k]).map AV.u8 by rw [List.map_append]; rfl]
      refine goB ?_
      rw [wrap_succ (by omega)]
      refine ⟨k + 1, by omega, by omega, ?_⟩
      simp only [hs2, List.length_append, List.length_cons, List.length_nil]
      exact .wf
    simp at hc2
    obtain rfl : k = 8 := by omega
    refine goB ?_
    rw [wrap_succ (by omega)]
    refine ⟨j + 1, hc, by omega, ?_⟩
    have e1 : keyO (l.take (j + 1)) = Lk := by rw [hst, ← hLk]; rfl
    simp only [e1]
    exact .wf
  simp at hc
  obtain rfl : j = l.length := by omega
  refine goB ?_
  refine ARun.q1 rfl rfl (ql_bytesStr rfl rfl (by simp) Try.underlying32 Try.underlying5 Try.underlying9) ?_
  refine goB ?_
  exact Ret.data rfl (by rw [List.take_length]; rfl) (.base _)
end Go.Ab
