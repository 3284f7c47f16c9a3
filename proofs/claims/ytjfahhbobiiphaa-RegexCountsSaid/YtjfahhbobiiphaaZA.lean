/- Part of the proof. -/
import Derived.Test.YtjfahhbobiiphaaYZ
import Derived.Test.YtjfahhbobiiphaaYT
import Derived.Test.YtjfahhbobiiphaaYU
import Derived.Test.YtjfahhbobiiphaaYR
import Derived.Test.YtjfahhbobiiphaaYV
set_option linter.unusedSimpArgs false
set_option linter.unusedVariables false
set_option maxHeartbeats 4000000
namespace Go.Ab
open Go Go.Ab Go.Proofs Go.Ab.Ty

def frE1 (f : List (List Nat)) : List AV := f.mapIdx fun p l => AV.own (p + 5) l.length 0 l.length
abbrev netH1 (x : Nt) : List ABlk := ⟨174, 3, [.agg [.own 2 x.n 0 x.n, .own 3 x.n 0 x.n, .own 4 x.n 0 x.n]]⟩ :: ⟨107, 1, frE1 x.f⟩ :: seB x.s :: toB x.t :: innB x.f
theorem PuB_seB (s : List ByteArray) : ∀ e ∈ (seB s).es, ∀ c ∈ e.cells, Pu c := fun e he c hc => by
  obtain ⟨x, _, rfl⟩ := List.mem_map.1 he
  exact Pu_strs (l := s) x ‹_› c hc
theorem PuB_toB (t : List Int) : ∀ e ∈ (toB t).es, ∀ c ∈ e.cells, Pu c := fun e he c hc => by
  obtain ⟨x, _, rfl⟩ := List.mem_map.1 he
  simp only [AV.cells, List.mem_singleton] at hc; subst hc; exact .base _
theorem BlkMv.cells {r : Nat → Option Nat} {H : List ABlk} {ty sz : Nat} {es es2 : List AV} (hl : es2.length = es.length) (h : ∀ (i : Nat) (e e2 : AV), es[i]? = some e → es2[i]? = some e2 → MvL r H e.cells e2.cells) : BlkMv r H ⟨ty, sz, es⟩ ⟨ty, sz, es2⟩ :=
  ⟨rfl, rfl, hl, fun i e e2 h1 h2 => ⟨(h i e e2 h1 h2).len, (h i e e2 h1 h2).get⟩⟩
theorem rb1 {j : Nat} : rb [1, 2, 3, 4] 5 j = some (j + 1) := by
  unfold rb
  match j with
  | 0 => rfl
  | 1 => rfl
  | 2 => rfl
  | 3 => rfl
  | j + 4 =>
    rw [if_neg (by simp)]
    congr 1
    simp; omega
theorem CallE.net (B0 : ABlk) (y : Nt) : CallE [1, 2, 3, 4] (B0 :: netH1 nt0) (netH nt0) (netH y) (B0 :: netH1 y) := by
  refine ⟨by decide, rfl, fun j b hj => ?_, by rw [netH_len, netH_len]; simp [nt0], by simp [nt0]; omega, fun b hb hn => ?_, fun j c bk hr hb => ?_⟩
  · match j with
    | 0 =>
      simp at hj; subst hj
      exact ⟨_, _, rfl, rfl, .cells rfl fun i e e2 h1 h2 => by
        cases i with
        | zero =>
          simp at h1 h2; subst h1; subst h2
          exact ⟨.own rfl, .own rfl, .own rfl, trivial⟩
        | succ i => simp at h1⟩
    | 1 =>
      simp at hj; subst hj
      exact ⟨_, _, rfl, rfl, .pu (by simp [frE1, nt0])⟩
    | 2 =>
      simp at hj; subst hj
      exact ⟨_, _, rfl, rfl, .pu (PuB_seB _)⟩
    | 3 =>
      simp at hj; subst hj
      exact ⟨_, _, rfl, rfl, .pu (PuB_toB _)⟩
    | j + 4 => simp at hj
  · match b with
    | 0 => rfl
    | 1 => simp at hn
    | 2 => simp at hn
    | 3 => simp at hn
    | 4 => simp at hn
    | b + 5 => exact absurd hb (show ¬ b + 5 < 5 by omega)
  · rw [show (B0 :: netH1 nt0).length = 5 from rfl, rb1] at hr
    injection hr with hr; subst hr
    have hro : ∀ k, rb [1, 2, 3, 4] (B0 :: netH1 nt0).length k = some (k + 1) := fun k => rb1
    match j with
    | 0 =>
      simp at hb; subst hb
      exact ⟨_, rfl, .cells rfl fun i e e2 h1 h2 => by
        cases i with
        | zero =>
          simp at h1 h2; subst h1; subst h2
          exact ⟨.own rfl, .own rfl, .own rfl, trivial⟩
        | succ i => simp at h1⟩
    | 1 =>
      simp at hb; subst hb
      refine ⟨_, rfl, .cells (by rw [frE_len]; exact List.length_mapIdx) fun i e e2 h1 h2 => ?_⟩
      unfold frE at h1; unfold frE1 at h2
      rw [List.getElem?_mapIdx] at h1 h2
      cases hi : y.f[i]? with
      | none => rw [hi] at h1; cases h1
      | some l =>
        rw [hi] at h1 h2
        simp at h1 h2; subst h1; subst h2
        exact ⟨.own (by rw [hro]), trivial⟩
    | 2 =>
      simp at hb; subst hb
      exact ⟨_, rfl, .pu (PuB_seB _)⟩
    | 3 =>
      simp at hb; subst hb
      exact ⟨_, rfl, .pu (PuB_toB _)⟩
    | j + 4 =>
      exact ⟨bk, hb, .pu (PuBl_inn y.f bk (List.mem_of_getElem? hb))⟩
theorem PubR_net {r : Nat → Option Nat} {B0 : ABlk} {y : Nt} (hO : y.Ok) (hr : ∀ b, 1 ≤ b → r b = none) : PubR r (B0 :: netH1 y) (.ptr 1 1 0 0) (.iptr (ntA y) 0) := by
  refine PubR.iptr (blk := ⟨174, 3, [.agg [.own 2 y.n 0 y.n, .own 3 y.n 0 y.n, .own 4 y.n 0 y.n]]⟩) (hr 1 (by omega)) rfl rfl rfl (show PubRL _ _ [_, _, _] [_, _, _] from ⟨PubR.lst (blk := ⟨107, 1, frE1 y.f⟩) (hr 2 (by omega)) rfl (by simp only [frE1, List.length_mapIdx]; exact hO.1) (by omega) (by rw [List.length_map]; exact hO.1) fun i e d hi he hd => ?_, .ownM (f := str) (l := y.s) (hr 3 (by omega)) rfl hO.2 (fun x hx c hc => Pu_strs (l := y.s) x hx c hc), .ownM (f := AV.int) (l := y.t) (hr 4 (by omega)) rfl rfl (fun x _ c hc => by simp only [AV.cells, List.mem_singleton] at hc; subst hc; exact .base _), trivial⟩)
  rw [Nat.zero_add] at he
  unfold frE1 at he
  rw [List.getElem?_mapIdx] at he
  rw [List.getElem?_map] at hd
  cases hi : y.f[i]? with
  | none => rw [hi] at he; cases he
  | some l =>
    rw [hi] at he hd
    simp at he hd; subst he; subst hd
    refine ⟨rfl, fun j c c' h1 h2 => ?_⟩
    cases j with
    | succ j => simp [AV.cells] at h1
    | zero =>
      simp [AV.cells] at h1 h2
      subst h1; subst h2
      exact .ownM (f := iN) (l := l) (hr _ (by omega)) (show (innB y.f)[i]? = _ by rw [List.getElem?_map, hi]; rfl) rfl (Pu_iN l)

abbrev stS' (L : List (List Bool)) : ABlk := ⟨71, 1, L.map lB⟩
abbrev kbS (s : List Bool) : ByteArray := bsL (kyS s)
abbrev keS (L : List (List Bool)) : ABlk := ⟨9, 1, L.map fun s => str (kbS s)⟩
theorem PuB_stS' (L : List (List Bool)) : ∀ e ∈ (stS' L).es, ∀ c ∈ e.cells, Pu c := fun e he c hc => by
  obtain ⟨x, _, rfl⟩ := List.mem_map.1 he
  simp only [AV.cells, List.mem_singleton] at hc; subst hc; exact Pu_lB x
theorem PuB_keS (L : List (List Bool)) : ∀ e ∈ (keS L).es, ∀ c ∈ e.cells, Pu c := fun e he c hc => by
  obtain ⟨x, _, rfl⟩ := List.mem_map.1 he
  simp only [AV.cells, List.mem_singleton] at hc; subst hc; exact .base _
theorem ql_ldS {H : List ABlk} {ρ : Operand → AV} {x : Operand} {b tot i : Nat} {A : List (List Bool)} {s : List Bool} (hx : ρ x = .ptr b tot i 0) (hb : H[b]? = some (stS' A)) (ht : A.length = tot) (he : A[i]? = some s) : QL Try.prog H ρ (.load 71 x) (lB s) := by
  refine ql_fun1 ?_
  simp only [qfun, hx, hb, List.length_map, ht, if_true, List.getElem?_map, he, Option.map_some, agg71, sz71, ldE, AV.cells, List.getElem?_cons_zero]
open Classical in
noncomputable def stpG (N : Nt) (s : List Bool) (c : UInt8) : Nat → List Bool
  | 0 => List.replicate N.n false
  | p + 1 => if inS s p ∧ 0 ≤ N.T p ∧ isIn (N.S p) c then (stpG N s c p).set (N.T p).toNat true else stpG N s c p
theorem stpG_len (N : Nt) (s : List Bool) (c : UInt8) : ∀ p, (stpG N s c p).length = N.n
  | 0 => by simp [stpG]
  | p + 1 => by
    rw [stpG]
    split
    · rw [List.length_set]; exact stpG_len N s c p
    · exact stpG_len N s c p
attribute [go_sem] stpG_len
theorem kbS_inj {a b : List Bool} (h : kbS a = kbS b) : a = b := kyS_inj (by have := congrArg (fun s : ByteArray => s.data.toList) h; simpa using this)
theorem stpG_in {N : Nt} (hN : N.In) (s : List Bool) (c : UInt8) (i : Nat) : ∀ p, p ≤ N.n → (inS (stpG N s c p) i ↔ i < N.n ∧ ∃ q, q < p ∧ inS s q ∧ N.T q = (i : Int) ∧ isIn (N.S q) c)
  | 0, _ => by
    simp only [stpG, Nat.not_lt_zero, false_and, exists_false, and_false, iff_false]
    unfold inS
    rw [List.getD_eq_getElem?_getD, List.getElem?_replicate]
    split <;> simp
  | p + 1, hp => by
    have ih := stpG_in hN s c i p (by omega)
    rw [stpG]
    split
    · rename_i h
      obtain ⟨h1, h2, h3⟩ := h
      obtain ⟨t, ht⟩ := Int.eq_ofNat_of_zero_le h2
      have htl := hN.t p t ht
      have hset : inS ((stpG N s c p).set (N.T p).toNat true) i ↔ i = t ∨ inS (stpG N s c p) i := by
        unfold inS
        rw [ht, Int.toNat_natCast, getD_set _ _ _ _ _ (by rw [stpG_len]; exact htl)]
        by_cases e : i = t <;> simp [e]
      rw [hset, ih]
      constructor
      · rintro (rfl | ⟨h4, q, h5, h6⟩)
        · exact ⟨htl, p, by omega, h1, ht, h3⟩
        · exact ⟨h4, q, by omega, h6⟩
      · rintro ⟨h4, q, h5, h6, h7, h8⟩
        rcases Nat.lt_or_ge q p with hq | hq
        · exact .inr ⟨h4, q, hq, h6, h7, h8⟩
        · obtain rfl : q = p := by omega
          rw [ht] at h7
          exact .inl (by omega)
    · rename_i h
      rw [ih]
      constructor
      · rintro ⟨h4, q, h5, h6⟩
        exact ⟨h4, q, by omega, h6⟩
      · rintro ⟨h4, q, h5, h6, h7, h8⟩
        rcases Nat.lt_or_ge q p with hq | hq
        · exact ⟨h4, q, hq, h6, h7, h8⟩
        · obtain rfl : q = p := by omega
          exact absurd ⟨h6, by rw [h7]; omega, h8⟩ h
theorem stpG_all {N : Nt} (hN : N.In) {s : List Bool} {c : UInt8} : stpG N s c N.n = stpN N s c := by
  refine List.ext_getElem (by rw [stpG_len, stpN_len]) fun i g1 g2 => ?_
  have h1 := stpG_in hN s c i N.n (Nat.le_refl _)
  rw [stpG_len] at g1
  have h2 : inS (stpN N s c) i ↔ i < N.n ∧ ∃ q, q < N.n ∧ inS s q ∧ N.T q = (i : Int) ∧ isIn (N.S q) c := by
    unfold stpN
    rw [inS_map]
    simp
  have h3 := h1.trans h2.symm
  unfold inS at h3
  rw [List.getD_eq_getElem?_getD, List.getD_eq_getElem?_getD, List.getElem?_eq_getElem (by rw [stpG_len]; exact g1), List.getElem?_eq_getElem g2, Option.getD_some, Option.getD_some] at h3
  exact Bool.eq_iff_iff.2 h3
theorem plainB_ok (r : Rx) (gs : List UInt8) (hw : r.wf) (ht : r.tight) (hc : r.cnt ≤ 14) (hg0 : 0 < gs.length) (hg9 : gs.length ≤ 95) (hS : ∀ S ∈ setsR r, S.size ≤ maxLen) : FnH Try.prog 113 [encX r, .lst (gs.map AV.u8)] [] (.agg [.lst ((plR gs r).1.map nL), .own 0 (plR gs r).2.length 0 (plR gs r).2.length]) [acB (plR gs r).2] := by
  have hnt := layN_ok r hw ht nt0 ⟨rfl, rfl⟩
  have hO := hnt.ok
  have hnn := hnt.n
  have hEr := eN_lay r nt0
  have i1 := lay_ok r hw ht nt0 ⟨rfl, rfl⟩ (by show 0 + 2 * r.cnt ≤ _; omega) (by show 0 + 6 * r.cnt ≤ _; omega)
  refine FnH.intro' [(0, encX r), (1, .lst (gs.map AV.u8))] 2 155 0 Try.func113 (by kernel_rfl) rfl rfl rfl rfl rfl rfl ?_
  have hxe : layN r nt0 = ntX r := rfl
  rw [hxe] at hnt hO hnn hEr i1
  obtain ⟨o, S, l⟩ := r
  rw [encX_mk] at i1 ⊢
  refine zs ?_
  refine reA ?_
  refine zOut ?_
  refine AWp.weaken (Wk.selB (E2 := [(1, .lst (gs.map AV.u8)), (2, .iptr (.agg [.int o, str S, .lst (l.map encX)]) 0), (4, .ptr 0 1 0 0)]) (H2 := [clA]) [1] (by decide) (fun b hb => absurd hb (Nat.not_lt_zero _)) ⟨⟨_, rfl, .pu PuB_clA⟩, trivial⟩ (WkR.all ⟨.pu (Pu_u8L gs), PubR.iptr (blk := ⟨24, 3, [.agg [.int o, str S, .lst (l.map encX)]]⟩) (e := .agg [.int o, str S, .lst (l.map encX)]) rfl rfl rfl rfl (show PubRL _ _ [_, _, _] [_, _, _] from ⟨.pu (.base _), .pu (.base _), .pu (Pu_mapX l), trivial⟩), .ptr rfl, trivial⟩)) ?_
  have Pu_ip : Pu (.iptr (.agg [.int o, str S, .lst (l.map encX)]) 0) := .iptr fun c hc => by
    simp only [AV.cells, List.mem_cons, List.not_mem_nil, or_false] at hc
    rcases hc with rfl | rfl | rfl
    · exact .base _
    · exact .base _
    · exact Pu_mapX l
  refine goC ?_
  refine ARun.q1 rfl rfl (ql_build pl174 zero174 (by simp +decide only [go_sem, List.map] <;> rfl)) ?_
  refine rcA ?_
  refine zOut ?_
  refine AWp.weaken (Wk.nilC (E2 := [(1, .lst (gs.map AV.u8)), (2, .iptr (.agg [.int o, str S, .lst (l.map encX)]) 0), (4, .ptr 0 1 0 0), (5, .ptr 1 1 0 0)]) (H2 := [clA, ⟨174, 3, [.agg [.own 2 0 0 0, nilC, nilC]]⟩]) 107 1 ?_ ?_) ?_
  · exact ⟨.pu PuB_clA, .one ⟨.nil rfl, .pu (.base _), .pu (.base _), trivial⟩, trivial⟩
  · simp +decide only [NilE, lk, if_true, if_false]
    exact ⟨.pu (Pu_u8L gs), .pu Pu_ip, .ptr, .ptr, trivial⟩
  refine AWp.weaken (Wk.nilC (E2 := [(1, .lst (gs.map AV.u8)), (2, .iptr (.agg [.int o, str S, .lst (l.map encX)]) 0), (4, .ptr 0 1 0 0), (5, .ptr 1 1 0 0)]) (H2 := [clA, ⟨174, 3, [.agg [.own 2 0 0 0, .own 3 0 0 0, nilC]]⟩, ⟨107, 1, []⟩]) 9 1 ?_ ?_) ?_
  · exact ⟨.pu PuB_clA, .one ⟨.own, .nil rfl, .pu (.base _), trivial⟩, .pu (PuB_rwB []), trivial⟩
  · simp +decide only [NilE, lk, if_true, if_false]
    exact ⟨.pu (Pu_u8L gs), .pu Pu_ip, .ptr, .ptr, trivial⟩
  refine AWp.weaken (Wk.nilC (E2 := [(1, .lst (gs.map AV.u8)), (2, .iptr (.agg [.int o, str S, .lst (l.map encX)]) 0), (4, .ptr 0 1 0 0), (5, .ptr 1 1 0 0)]) (H2 := [clA, ⟨174, 3, [.agg [.own 2 0 0 0, .own 3 0 0 0, .own 4 0 0 0]]⟩, ⟨107, 1, []⟩, ⟨9, 1, []⟩]) 3 1 ?_ ?_) ?_
  · exact ⟨.pu PuB_clA, .one ⟨.own, .own, .nil rfl, trivial⟩, .pu (PuB_rwB []), .pu (PuB_seB []), trivial⟩
  · simp +decide only [NilE, lk, if_true, if_false]
    exact ⟨.pu (Pu_u8L gs), .pu Pu_ip, .ptr, .ptr, trivial⟩
  refine goC ?_
  refine ARun.p1 rfl rfl (pl_callH (e := [1, 2, 3, 4]) (d' := .tup [.int 0, .int 1]) i1 (CallE.net clA (ntX (.mk o S l))) rfl (by simp +decide only [go_sem] <;> rfl) (by simp +decide only [go_sem, List.map]; exact ⟨.ptr rfl, .agg' ⟨.pu (.base _), .pu (.base _), .pu (Pu_mapX l), trivial⟩, trivial⟩) (.tup' ⟨.pu (.base _), .pu (.base _), trivial⟩)) ?_
  refine rcA ?_
  refine zOut ?_
  generalize hy : ntX (.mk o S l) = y at *
  refine AWp.weaken (Wk.selB (E2 := [(1, .lst (gs.map AV.u8)), (4, .ptr 0 1 0 0), (5, .iptr (ntA y) 0), (6, .int 0), (7, .int 1)]) (H2 := [clA]) [0] (by decide) (fun b hb => absurd hb (Nat.not_lt_zero _)) ⟨⟨_, rfl, .pu PuB_clA⟩, trivial⟩ (WkR.all ⟨.pu (Pu_u8L gs), .ptr rfl, PubR_net hO (fun b hb => ?_), .pu (.base _), .pu (.base _), trivial⟩)) ?_
  · obtain ⟨b, rfl⟩ : ∃ b', b = b' + 1 := ⟨b - 1, by omega⟩
    rfl
  have hSz : ∀ p, (y.S p).size ≤ maxLen := fun p => by
    rw [← hy]
    rcases layN_sets (.mk o S l) nt0 p with h1 | h1
    · show ((layN (.mk o S l) nt0).S p).size ≤ maxLen
      rw [h1]; simp [Nt.S, nt0]
    · exact hS _ h1
  clear i1
  have hnr : y.n ≤ 28 := by
    have : nt0.n = 0 := rfl
    omega
  have hn2 : 2 ≤ y.n := by
    have : nt0.n = 0 := rfl
    omega
  have hfl : ∀ r ∈ y.f, r.length ≤ 1000 := fun r hr => by
    obtain ⟨i, hi, rfl⟩ := List.getElem_of_mem hr
    have := eN_F y i
    unfold Nt.F at this
    rw [List.getD_eq_getElem?_getD, List.getElem?_eq_getElem hi, Option.getD_some] at this
    have h0 : eN nt0 = 0 := rfl
    omega
  have hIn : y.In := by
    rw [← hy]; exact ntX_in hw ht
  have htl : y.t.length = y.n := rfl
  refine goC ?_
  refine ARun.p1 rfl rfl (pl_make (by simp +decide only [go_sem] <;> rfl) (by simp +decide only [go_sem] <;> rfl) Try.underlying71 el4 zero4 rfl (by omega) (by omega) (by omega) (by omega)) ?_
  rw [show y.t.length = y.n from rfl, show List.replicate ((y.n : Int)).toNat (AV.base (.bool false)) = (List.replicate y.n false).map AV.bool by simp]
  have hrl : (List.replicate y.n false).length = y.n := List.length_replicate
  have hrm : ((List.replicate y.n false).map AV.bool).length = y.n := by rw [List.length_map]; exact hrl
  refine goD ?_
  refine ARun.p1 rfl rfl (pl_store_own (b := 1) (tot := y.n) (i := 0) (ty := 4) (sz := 1) (l := List.replicate y.n false) (f := AV.bool) true (by simp +decide only [go_sem] <;> simp) (by simp +decide only [go_sem] <;> rfl) rfl hrl (by omega) sz4 rfl rfl) ?_
  have hs0l : ((List.replicate y.n false).set 0 true).length = y.n := by simp
  have i2 := close_ok y hIn hO (by omega) hfl _ hs0l
  rw [show cloN y ((List.replicate y.n false).set 0 true) = s0N y from rfl] at i2
  have hs1 : (s0N y).length = y.n := cloN_len _ _
  generalize hs0 : s0N y = s0 at *
  rw [hs0l, hs1] at i2
  generalize (List.replicate y.n false).set 0 true = sb at *
  refine goC ?_
  refine ARun.p1 rfl rfl (pl_callH (e := [1]) (d' := .own 1 y.n 0 y.n) i2 (CallE.put1 (b := 1) rfl (.cons (PuB_acB _) .nil) (.cons (PuB_acB _) .nil)) rfl (by simp +decide only [go_sem] <;> rfl) (by simp +decide only [go_sem, List.map]; exact ⟨.pu (Pu_nt y), .own rfl, trivial⟩) (.own rfl)) ?_
  refine ARun.p1 rfl rfl (pl_buildSlice (es := [.own 1 y.n 0 y.n]) (by decide) Try.underlying67 sz71 (by kernel_rfl) (by decide) (by simp +decide only [go_sem] <;> rfl) (by simp +decide only [go_sem] <;> rfl) rfl) ?_
  refine rcA ?_
  refine zOut ?_
  refine AWp.weaken (Wk.selB (E2 := [(1, .lst (gs.map AV.u8)), (4, .ptr 0 1 0 0), (5, .iptr (ntA y) 0), (7, .int 1), (9, .own 1 1 0 1)]) (H2 := [clA, stS' [s0]]) [0, 2] (by decide) (fun b hb => absurd hb (Nat.not_lt_zero _)) ⟨⟨_, rfl, .pu PuB_clA⟩, ⟨_, rfl, .one ⟨.ownM (f := AV.bool) (l := s0) rfl rfl hs1 (Pu_bools s0), trivial⟩⟩, trivial⟩ (WkR.all ⟨.pu (Pu_u8L gs), .ptr rfl, .pu (Pu_nt y), .pu (.base _), .own rfl, trivial⟩)) ?_
  have i3 := key_ok s0 (by omega)
  refine goC ?_
  refine ARun.q1 rfl rfl (ql_indexAddr_own (k := .i64) (n := 0) (b := 1) (tot := 1) (off := 0) (len := 1) (blk := stS' [s0]) (by simp +decide only [go_sem] <;> rfl) rfl Try.underlying67 rfl rfl (by decide) (by decide) (by kernel_rfl)) ?_
  refine ARun.q1 rfl rfl (ql_fun (v := lB s0) (by simp +decide only [go_sem] <;> rfl)) ?_
  refine callA (i3) ?_
  refine ARun.p1 rfl rfl (pl_buildSlice (es := [str (kbS s0)]) (by decide) Try.underlying50 sz9 (by kernel_rfl) (by decide) (by simp +decide only [go_sem] <;> rfl) (by simp +decide only [go_sem] <;> rfl) rfl) ?_
  refine goC ?_
  refine AWp.weaken (Wk.nilC (E2 := [(1, .lst (gs.map AV.u8)), (4, .ptr 0 1 0 0), (5, .iptr (ntA y) 0), (7, .int 1), (9, .own 1 1 0 1), (10, .own 2 1 0 1), (11, .ptr 3 1 0 0), (12, .int 0)]) (H2 := [clA, stS' [s0], keS [s0], ⟨112, 2, [.agg [.own 4 0 0 0, nilC]]⟩]) 107 1 ?_ ?_) ?_
  · exact ⟨.pu PuB_clA, .pu (PuB_stS' _), .pu (PuB_keS [s0]), .one ⟨.nil rfl, .pu (.base _), trivial⟩, trivial⟩
  · simp +decide only [NilE, lk, if_true, if_false]
    exact ⟨.pu (Pu_u8L gs), .ptr, .pu (Pu_nt y), .pu (.base _), .own, .own, .ptr, .pu (.base _), trivial⟩
  refine AWp.weaken (Wk.nilC (E2 := [(1, .lst (gs.map AV.u8)), (4, .ptr 0 1 0 0), (5, .iptr (ntA y) 0), (7, .int 1), (9, .own 1 1 0 1), (10, .own 2 1 0 1), (11, .ptr 3 1 0 0), (12, .int 0)]) (H2 := [clA, stS' [s0], keS [s0], ⟨112, 2, [.agg [.own 4 0 0 0, .own 5 0 0 0]]⟩, rwB []]) 4 1 ?_ ?_) ?_
  · exact ⟨.pu PuB_clA, .pu (PuB_stS' _), .pu (PuB_keS [s0]), .one ⟨.own, .nil rfl, trivial⟩, .pu (PuB_rwB []), trivial⟩
  · simp +decide only [NilE, lk, if_true, if_false]
    exact ⟨.pu (Pu_u8L gs), .ptr, .pu (Pu_nt y), .pu (.base _), .own, .own, .ptr, .pu (.base _), trivial⟩
  have hpow : 2 ^ y.n ≤ 268435456 := Nat.le_trans (Nat.pow_le_pow_right (by decide) hnr) (by decide)
  have hxl := fun k => xsP_len gs y k
  have hel := fun k => xsP_el gs y k
  have hz : ∀ k, 0 < (xsP gs y k).1.length := fun k => (List.getElem?_eq_some_iff.1 (xs_ok (dN y) gs (s0N y) k).zero).1
  have hwd : ∀ k, ∀ x ∈ (xsP gs y k).2, x.length = gs.length := fun k x hx => (xs_ok (dN y) gs (s0N y) k).wd x hx
  have hlt2 : ∀ k, ∀ x ∈ (xsP gs y k).2, ∀ z ∈ x, z < (xsP gs y k).1.length := fun k => (xs_ok (dN y) gs (s0N y) k).lt
  have hpre : ∀ k m, ∃ t, (xsP gs y (k + m)).1 = (xsP gs y k).1 ++ t := fun k m => xs_pre _ _ _ k m
  have hX2 : ∀ k, k ≤ (xsP gs y k).1.length → (xsP gs y k).2.length = k := fun k h => (xs_ok (dN y) gs (s0N y) k).len.2.2.1 h
  have hX0 : xsP gs y 0 = ([s0], []) := by unfold xsP; rw [hs0]; rfl
  have hns : ∀ k s, (xsP gs y k).1[k]? = some s → xsP gs y (k + 1) = ((rowX (dN y s) gs (xsP gs y k).1 []).1, (xsP gs y k).2 ++ [(rowX (dN y s) gs (xsP gs y k).1 []).2]) := fun k s h => by
    unfold xsP at h ⊢; rw [xs_some h]
  have hfin : ∀ k, (xsP gs y k).1.length ≤ k → xsP gs y (2 ^ y.n) = xsP gs y k := fun k h => by
    rcases Nat.le_total k (2 ^ y.n) with hle | hle
    · have := xs_stop (δ := dN y) (gs := gs) (s0 := s0N y) h (2 ^ y.n - k)
      rw [Nat.add_sub_cancel' hle] at this; exact this
    · have := xs_stop (δ := dN y) (gs := gs) (s0 := s0N y) (hxl (2 ^ y.n)) (k - 2 ^ y.n)
      rw [Nat.add_sub_cancel' hle] at this; exact this.symm
  unfold plR plR0
  rw [hy]
  generalize hXX : xsP gs y = X at *
  clear hXX
  generalize hF : (fun k => ((X k).1.take k).map fun s => s.getD 1 false) = F
  have hF0 : F 0 = [] := by rw [← hF]; rfl
  have hX02 : (X 0).2 = [] := by rw [hX0]
  have hX01 : (X 0).1 = [s0] := by rw [hX0]
  refine AWp.loop (J := fun k : Nat => k ≤ (X k).1.length) (fun k => ⟨[(1, .lst (gs.map AV.u8)), (4, .ptr 0 1 0 0), (5, .iptr (ntA y) 0), (7, .int 1), (9, .own 1 (X k).1.length 0 (X k).1.length), (10, .own 2 (X k).1.length 0 (X k).1.length), (11, .ptr 3 1 0 0), (12, .int k)], [clA, stS' (X k).1, keS (X k).1, ⟨112, 2, [.agg [.own 4 k 0 k, .own 5 k 0 k]]⟩, rwB (X k).2, acB (F k)]⟩) (fun k => 268435456 - k) 0 (Nat.zero_le _) (by rw [hX02, hX01, hF0]; exact .wf) ?_
  intro k hk
  have hX2k := hX2 k hk
  have hns := hns k
  have hxl := hxl k
  have hel := hel k
  have hfin := hfin k
  have hpre := hpre k
  have hz := hz k
  have hwd := hwd k
  have hlt2 := hlt2 k
  have hFl : (F k).length = k := by rw [← hF]; simp only [List.length_map, List.length_take]; omega
  have hml : ∀ l : List (List Bool), (l.map lB).length = l.length := fun l => List.length_map _
  generalize hA : (X k).1 = A at *
  generalize hB : (X k).2 = B at *
  generalize hC : F k = C at *
  refine goC ?_
  refine ifA (fun hc => ?_) (fun hc => ?_)
  · have hc := of_decide_eq_true hc
    have hc : k < A.length := by omega
    have hsl := hel _ (List.getElem_mem hc)
    have hns := hns _ (List.getElem?_eq_getElem hc)
    have hnk : nth default A (k : Int) = A[k] := nth_eq hc
    have hAk : A[k]? = some A[k] := List.getElem?_eq_getElem hc
    generalize A[k] = s at *
    refine goC ?_
    have hs1' : (s.map AV.bool)[1]? = some (.bool (s.getD 1 false)) := by rw [List.getElem?_map, List.getElem?_eq_getElem (by omega), List.getD_eq_getElem?_getD, List.getElem?_eq_getElem (by omega)]; rfl
    have hsm : (s.map AV.bool).length = s.length := List.length_map _
    have hFs : F (k + 1) = C ++ [s.getD 1 false] := by
      obtain ⟨t, ht⟩ := hpre 1
      rw [← hC, ← hF]; simp only
      rw [ht, hA, List.take_append_of_le_length (by omega), List.take_succ_eq_append_getElem hc, List.map_append]
      have : A[k] = s := (List.getElem?_eq_some_iff.1 hAk).2
      rw [this]; rfl
    generalize s.getD 1 false = v at *
    with_reducible apply AWp.drawK (k := 11) [none, none, none, none, none, none, none, none, none, none, some 0] (fun c => match c with
      | 0 => [clA, stS' A, keS A, ⟨112, 2, [.agg [.own 4 k 0 k, .own 5 k 0 k]]⟩, rwB B, acB C]
      | _ => [clA, stS' A, keS A, ⟨112, 2, [.agg [.own 4 k 0 k, .own 5 k 0 k]]⟩, rwB B, acB (C ++ [v])]) 1 follows
    · refine ⟨rfl, rfl, by kernel_rfl, by decide, ?_, ?_⟩
      · simp +decide only [go_sem, List.map, List.take]; rfl
      · simp +decide only [go_sem, List.map, List.drop]; rfl
    · kernel_rfl
    · rfl
    refine GRun.qf1 (v := .ptr 3 1 0 1) rfl rfl (by simp +decide only [go_sem] <;> rfl) (by simp +decide only [go_sem] <;> rfl) ?_
    refine GRun.qf1 (v := .own 5 k 0 k) rfl rfl (by simp +decide only [go_sem] <;> rfl) (by simp +decide only [go_sem] <;> rfl) ?_
    refine GRun.qf1 (v := .own 1 A.length 0 A.length) rfl rfl (by simp +decide only [go_sem] <;> rfl) (by simp +decide only [go_sem] <;> rfl) ?_
    refine GRun.qf1 (v := .int k) rfl rfl (by simp +decide only [go_sem] <;> rfl) (by simp +decide only [go_sem] <;> rfl) ?_
    refine GRun.q1 (v := .ptr 1 A.length (0 + ((k : Nat) : Int).toNat) 0) rfl rfl (fun d _ => ql_indexAddr_own (k := .i64) (n := ((k : Nat) : Int)) (blk := stS' A) (by simp +decide only [go_sem] <;> rfl) (by simp +decide only [go_sem] <;> rfl) Try.underlying67 (by match d with | 0 => rfl | _ + 1 => rfl) (hml A) (by omega) (by omega) (by kernel_rfl)) ?_
    refine GRun.q1 (v := lB s) rfl rfl (fun d _ => ql_ldS (b := 1) (tot := A.length) (i := k) (A := A) (by simp +decide only [go_sem] <;> simp) (by match d with | 0 => rfl | _ + 1 => rfl) rfl hAk) ?_
    refine GRun.qf1 (v := .int 1) rfl rfl (by simp +decide only [go_sem] <;> rfl) (by simp +decide only [go_sem] <;> rfl) ?_
    refine GRun.q1 (v := .iptr (.bool v) 0) rfl rfl (fun d _ => ql_indexAddr_lst (k := .i64) (n := 1) (es := s.map AV.bool) (by simp +decide only [go_sem] <;> rfl) (by simp +decide only [go_sem] <;> rfl) Try.underlying71 (by omega) (e := .bool v) hs1' (by kernel_rfl)) ?_
    refine GRun.qf1 (v := .bool v) rfl rfl (by simp +decide only [go_sem] <;> rfl) (by simp +decide only [go_sem] <;> rfl) ?_
    refine GRun.q1 (v := .lst [.bool v]) rfl rfl (fun d _ => ql_buildSlice (by decide) Try.underlying71 sz4 (by kernel_rfl) (by decide) (by (simp +decide only [List.map, go_sem] <;> rfl)) (by (simp +decide only [List.map, go_sem] <;> rfl)) rfl) ?_
    refine GRun.p1 (v := .own 5 (k + 1) 0 (k + 1)) rfl rfl (fun ρ' h => ?_) ?_
    · have := pl_append (P := Try.prog) (ρ := ρ') (H := [clA, stS' A, keS A, ⟨112, 2, [.agg [.own 4 k 0 k, .own 5 k 0 k]]⟩, rwB B, acB C]) (b := 5) (tot := k) (es := [.bool v]) ((h (.tmp 51) (by simp [Op.operands, Call.operands])).trans (by simp +decide only [go_sem] <;> rfl)) ((h (.tmp 59) (by simp [Op.operands, Call.operands])).trans (by simp +decide only [go_sem] <;> rfl)) rfl (by simp; omega) Try.underlying71 el4 rfl rfl (by simp) (fun e he => by rw [List.mem_singleton] at he; subst he; exact ⟨rfl, rfl⟩) (by simp; omega) (by simp; omega)
      simp only [acB, List.map_append, List.map_cons, List.map_nil]; exact this
    refine GRun.nil ?_
    refine rcA ?_
    have hgm : (gs.map AV.u8).length = gs.length := List.length_map _
    refine goC ?_
    refine ARun.p1 rfl rfl (pl_make (by simp +decide only [go_sem] <;> rfl) (by simp +decide only [go_sem] <;> rfl) Try.underlying107 el3 zero3 rfl (by omega) (by omega) (by omega) (by omega)) ?_
    generalize hR : (fun j => rowX (dN y s) (gs.take j) A []) = R
    have hR0 : R 0 = (A, []) := by rw [← hR]; rfl
    have hRn : rowX (dN y s) gs A [] = R gs.length := by rw [← hR]; simp only [List.take_length]
    have hRs : ∀ j (h : j < gs.length), R (j + 1) = (addN (R j).1 (dN y s gs[j]), (R j).2 ++ [ixN (R j).1 (dN y s gs[j])]) := fun j hj => by
      rw [← hR]; simp only
      rw [List.take_succ_eq_append_getElem hj, rowX_snoc']
    have hWg : ∀ j (h : j < gs.length), (R gs.length).2.getD j 0 = ixN (R j).1 (dN y s gs[j]) := fun j hj => by
      rw [← hRn, rowR_getD _ _ _ hj, ← hR]
    have hWl : (R gs.length).2.length = gs.length := by rw [← hRn, (rowX_ok _ _ _ _ rfl).len]
    have hRl : ∀ j, j ≤ gs.length → (R j).1.length ≤ 300000000 := fun j hj => by
      have := (rowX_len (dN y s) A j (gs.take j) (by simp; omega)).1
      rw [← hR]; simp only; omega
    have hRe : ∀ j, ∀ t ∈ (R j).1, t.length = y.n := fun j t ht' => by
      rw [← hR] at ht'
      rcases (rowX_ok (dN y s) A _ (gs.take j) rfl).mem t ht' with h | ⟨g, _, rfl⟩
      · exact hel t h
      · exact cloN_len _ _
    have hRp : ∀ j, (R j).1[k]? = some s := fun j => by
      obtain ⟨m, hm⟩ := (rowX_ok (dN y s) A _ (gs.take j) rfl).pre
      rw [← hR]; simp only
      rw [hm, List.getElem?_append_left hc]; exact hAk
    rw [hRn] at hns
    clear hR
    generalize hW : (R gs.length).2 = W at *
    rw [show List.replicate ((gs.length : Int)).toNat (AV.base (.int .i64 0)) = (mixN gs.length W 0).map iN by rw [mixN_0]; simp]
    refine goC ?_
    refine AWp.loop (J := fun j : Nat => j ≤ gs.length) (fun j => ⟨[(1, .lst (gs.map AV.u8)), (4, .ptr 0 1 0 0), (5, .iptr (ntA y) 0), (7, .int 1), (9, .own 1 (R j).1.length 0 (R j).1.length), (10, .own 2 (R j).1.length 0 (R j).1.length), (11, .ptr 3 1 0 0), (12, .int k), (13, .own 6 gs.length 0 gs.length), (14, .int j)], [clA, stS' (R j).1, keS (R j).1, ⟨112, 2, [.agg [.own 4 k 0 k, .own 5 (k + 1) 0 (k + 1)]]⟩, rwB B, acB (C ++ [v]), inB' (mixN gs.length W j)]⟩) (fun j => gs.length - j) 0 (Nat.zero_le _) (by rw [hR0]; exact .wf) ?_
    intro j hj
    have hRs := hRs j
    have hWg := hWg j
    have hRl := hRl j hj
    have hRe := hRe j
    have hRp := hRp j
    generalize hD : (R j).1 = D at *
    refine goC ?_
    refine ifA (fun hc2 => ?_) (fun hc2 => ?_)
    · have hc2 := of_decide_eq_true hc2
      have hc2 : j < gs.length := by omega
      have hRs := hRs hc2
      have hWg := hWg hc2
      have hcn : nth default gs (j : Int) = gs[j] := nth_eq hc2
      have hgc : (gs.map AV.u8)[j]? = some (AV.u8 gs[j]) := by rw [List.getElem?_map, List.getElem?_eq_getElem hc2]; rfl
      generalize gs[j] = c at *
      refine goC ?_
      refine ARun.p1 rfl rfl (pl_make (by simp +decide only [go_sem] <;> rfl) (by simp +decide only [go_sem] <;> rfl) Try.underlying71 el4 zero4 rfl (by omega) (by omega) (by omega) (by omega)) ?_
      rw [show y.t.length = y.n from rfl, show List.replicate ((y.n : Int)).toNat (AV.base (.bool false)) = (stpG y s c 0).map AV.bool by simp [stpG]]
      refine goC ?_
      refine AWp.loop (J := fun p : Nat => p ≤ y.n) (fun p => ⟨[(1, .lst (gs.map AV.u8)), (4, .ptr 0 1 0 0), (5, .iptr (ntA y) 0), (7, .int 1), (9, .own 1 D.length 0 D.length), (10, .own 2 D.length 0 D.length), (11, .ptr 3 1 0 0), (12, .int k), (13, .own 6 gs.length 0 gs.length), (14, .int j), (15, .own 7 y.n 0 y.n), (16, .int p)], [clA, stS' D, keS D, ⟨112, 2, [.agg [.own 4 k 0 k, .own 5 (k + 1) 0 (k + 1)]]⟩, rwB B, acB (C ++ [v]), inB' (mixN gs.length W j), acB (stpG y s c p)]⟩) (fun p => y.n - p) 0 (Nat.zero_le _) .wf ?_
      intro p hp
      have hgl := stpG_len y s c p
      have hgl2 : ((stpG y s c p).map AV.bool).length = y.n := by rw [List.length_map]; exact hgl
      refine goC ?_
      refine ifA (fun hc3 => ?_) (fun hc3 => ?_)
      · have hc3 := of_decide_eq_true hc3
        have hc3 : p < y.n := by omega
        refine goC ?_
        have hkD : k < D.length := (List.getElem?_eq_some_iff.1 hRp).1
        have hsp : (s.map AV.bool)[p]? = some (.bool (s.getD p false)) := by rw [List.getElem?_map, List.getElem?_eq_getElem (by omega), List.getD_eq_getElem?_getD, List.getElem?_eq_getElem (by omega)]; rfl
        have hSt1 : (s.getD p false = true ∧ 0 ≤ y.T p ∧ isIn (y.S p) c) → stpG y s c (p + 1) = (stpG y s c p).set (y.T p).toNat true := fun h => by rw [stpG]; exact if_pos h
        have hSt0 : ¬ (s.getD p false = true ∧ 0 ≤ y.T p ∧ isIn (y.S p) c) → stpG y s c (p + 1) = stpG y s c p := fun h => by rw [stpG]; exact if_neg h
        have hst : (y.t.map AV.int)[p]? = some (.int (y.T p)) := by
          unfold Nt.T
          rw [List.getElem?_map, List.getD_eq_getElem?_getD, List.getElem?_eq_getElem (by omega)]; rfl
        have hss : (y.s.map str)[p]? = some (str (y.S p)) := by
          unfold Nt.S
          rw [List.getElem?_map, List.getD_eq_getElem?_getD, List.getElem?_eq_getElem (by have := hO.2; omega)]; rfl
        have hTi := hIn.t p
        have ihas := has_ok (hSz p) c
        have hmS : (y.s.map str).length = y.n := by rw [List.length_map]; exact hO.2
        have hmT : (y.t.map AV.int).length = y.n := by rw [List.length_map]; exact htl
        refine drA (k := 31) follows (hr := ?_)
        refine goC ?_
        refine ARun.q1 rfl rfl (ql_indexAddr_own (k := .i64) (n := ((k : Nat) : Int)) (b := 1) (tot := D.length) (off := 0) (len := D.length) (blk := stS' D) (by simp +decide only [go_sem] <;> rfl) rfl Try.underlying67 rfl (hml D) (by omega) (by omega) (by kernel_rfl)) ?_
        refine ARun.q1 rfl rfl (ql_ldS (b := 1) (tot := D.length) (i := k) (A := D) (by simp +decide only [go_sem] <;> simp) rfl rfl hRp) ?_
        refine goC ?_
        refine ARun.q1 rfl rfl (ql_indexAddr_lst (k := .i64) (n := ((p : Nat) : Int)) (es := s.map AV.bool) (e := .bool (s.getD p false)) (by simp +decide only [go_sem] <;> rfl) (by simp +decide only [go_sem] <;> rfl) Try.underlying71 (by omega) hsp (by kernel_rfl)) ?_
        generalize s.getD p false = sp at *
        refine goC ?_
        refine gqA (h := fun hg => ql_indexAddr_lst (k := .i64) (n := ((p : Nat) : Int)) (es := y.t.map AV.int) (e := .int (y.T p)) (by simp +decide only [go_sem] <;> rfl) (by simp +decide only [go_sem] <;> rfl) Try.underlying107 (by omega) hst (by kernel_rfl)) (hr := ?_)
        refine goC ?_
        refine gqA (h := fun hg => ql_indexAddr_lst (k := .i64) (n := ((p : Nat) : Int)) (es := y.s.map str) (e := str (y.S p)) (by simp +decide only [go_sem] <;> rfl) (by simp +decide only [go_sem] <;> rfl) Try.underlying50 (by omega) hss (by kernel_rfl)) (hr := ?_)
        refine goC ?_
        refine gqA (h := fun hg => ql_indexAddr_lst (k := .i64) (n := ((j : Nat) : Int)) (es := gs.map AV.u8) (e := AV.u8 c) (by simp +decide only [go_sem] <;> rfl) (by simp +decide only [go_sem] <;> rfl) Try.underlying32 (by omega) hgc (by kernel_rfl)) (hr := ?_)
        refine goC ?_
        refine gcallA (i := fun hg => ihas) (hr := ?_)
        refine goC ?_
        by_cases hcond : sp = true ∧ 0 ≤ y.T p ∧ isIn (y.S p) c
        · refine ift_ ?_ ?_ rfl
          rotate_left
          · simp [hcond.1, hcond.2.1, hcond.2.2]
          have hSt1 := hSt1 hcond
          obtain ⟨tn, htn⟩ := Int.eq_ofNat_of_zero_le hcond.2.1
          have htlt := hTi tn htn
          rw [htn] at hst hSt1
          rw [Int.toNat_natCast] at hSt1
          refine goC ?_
          refine ARun.q1 rfl rfl (ql_indexAddr_lst (k := .i64) (n := ((p : Nat) : Int)) (es := y.t.map AV.int) (e := .int ((tn : Nat) : Int)) (by simp +decide only [go_sem] <;> rfl) (by simp +decide only [go_sem] <;> rfl) Try.underlying107 (by omega) hst (by kernel_rfl)) ?_
          refine goC ?_
          refine ARun.q1 rfl rfl (ql_indexAddr_own (k := .i64) (n := ((tn : Nat) : Int)) (b := 7) (tot := y.n) (off := 0) (len := y.n) (blk := acB (stpG y s c p)) (by simp +decide only [go_sem] <;> rfl) (by simp +decide only [go_sem] <;> rfl) Try.underlying71 rfl hgl2 (by omega) (by omega) (by kernel_rfl)) ?_
          refine ARun.p1 rfl rfl (pl_store_own (b := 7) (tot := y.n) (i := tn) (ty := 4) (sz := 1) (l := stpG y s c p) (f := AV.bool) true (by simp +decide only [go_sem] <;> simp) (by simp +decide only [go_sem] <;> rfl) rfl hgl (by omega) sz4 rfl rfl) ?_
          refine goC ?_
          rw [wrap_succ (by omega)]
          refine ⟨p + 1, hc3, by omega, ?_⟩
          rw [hSt1]
          exact .wf
        · refine iff_ ?_ ?_ rfl
          rotate_left
          · have h : ¬ (sp = true ∧ 0 ≤ y.T p ∧ isIn (y.S p) c) := hcond
            cases sp with
            | false => rfl
            | true =>
              simp only [true_and] at h
              by_cases h1 : 0 ≤ y.T p
              · have h2 : ¬ isIn (y.S p) c := fun h2 => h ⟨h1, h2⟩
                simp [h2]
              · simp [h1]
          refine goC ?_
          rw [wrap_succ (by omega)]
          refine ⟨p + 1, hc3, by omega, ?_⟩
          rw [hSt0 hcond]
          exact .wf
      have hc3 := of_decide_eq_false hc3
      obtain rfl : p = y.n := by omega
      rw [stpG_all hIn]
      have i4 := close_ok y hIn hO (by omega) hfl (stpN y s c) (stpN_len _ _ _)
      rw [show cloN y (stpN y s c) = dN y s c from rfl, stpN_len, show (dN y s c).length = y.n from cloN_len _ _] at i4
      have hdl : (dN y s c).length = y.n := cloN_len _ _
      refine AWp.exit ?_
      repeat (with_reducible apply thenQ_e)
      refine blkQ_e (thenQ_n ?_)
      generalize dN y s c = s' at *
      refine goC ?_
      refine ARun.p1 rfl rfl (pl_callH (e := [7]) (d' := .own 7 y.n 0 y.n) i4 (CallE.put1 (b := 7) rfl (.cons (PuB_acB _) .nil) (.cons (PuB_acB _) .nil)) rfl (by simp +decide only [go_sem] <;> rfl) (by simp +decide only [go_sem, List.map]; exact ⟨.pu (Pu_nt y), .own rfl, trivial⟩) (.own rfl)) ?_
      refine rcA ?_
      refine zOut ?_
      refine AWp.weaken (Wk.selB (E2 := [(1, .lst (gs.map AV.u8)), (4, .ptr 0 1 0 0), (5, .iptr (ntA y) 0), (7, .int 1), (9, .own 1 D.length 0 D.length), (10, .own 2 D.length 0 D.length), (11, .ptr 3 1 0 0), (12, .int k), (13, .own 6 gs.length 0 gs.length), (14, .int j), (15, lB s')]) (H2 := [clA, stS' D, keS D, ⟨112, 2, [.agg [.own 4 k 0 k, .own 5 (k + 1) 0 (k + 1)]]⟩, rwB B, acB (C ++ [v]), inB' (mixN gs.length W j)]) [0, 1, 2, 3, 4, 5, 6] (by decide) (fun b hb => absurd hb (Nat.not_lt_zero _)) ⟨⟨_, rfl, .pu PuB_clA⟩, ⟨_, rfl, .pu (PuB_stS' _)⟩, ⟨_, rfl, .pu (PuB_keS _)⟩, ⟨_, rfl, .one ⟨.own rfl, .own rfl, trivial⟩⟩, ⟨_, rfl, .pu (PuB_rwB _)⟩, ⟨_, rfl, .pu (PuB_acB _)⟩, ⟨_, rfl, .pu (PuB_inB _)⟩, trivial⟩ (WkR.all ⟨.pu (Pu_u8L gs), .ptr rfl, .pu (Pu_nt y), .pu (.base _), .own rfl, .own rfl, .ptr rfl, .pu (.base _), .own rfl, .pu (.base _), .ownM (f := AV.bool) (l := s') rfl rfl hdl (Pu_bools s'), trivial⟩)) ?_
      have i5 := key_ok s' (by omega)
      have i6 := has0_ok kbS D s' (fun t ht' h => kbS_inj h) (by omega)
      have hml6 := mixN_len gs.length W j
      refine goC ?_
      refine callA (i5) ?_
      refine ARun.q1 rfl rfl (ql_callM (args := [.lst (D.map fun s => str (kbS s)), str (kbS s')]) rfl (by simp +decide only [go_sem] <;> rfl) (by simp +decide only [go_sem, List.map, LendL]; exact ⟨.ownM rfl rfl fun x _ c hc => by simp only [AV.cells, List.mem_singleton] at hc; subst hc; exact .base _, .pu (.base _)⟩) (.base _) i6) ?_
      refine goC ?_
      by_cases hm : s' ∈ D
      · have hixl : ixN D s' < D.length := ixN_lt.2 hm
        rw [addN_old hm] at hRs
        rw [ixN_old hm] at hWg hixl
        rw [if_pos hm]
        generalize D.idxOf s' = l' at *
        refine goC ?_
        refine iff_ (b := decide ((l' : Int) < 0)) ?_ (by rw [decide_eq_false_iff_not]; omega)
        refine goD ?_
        refine ARun.p1 rfl rfl (pl_store_own (b := 6) (tot := gs.length) (i := j) (ty := 3) (sz := 1) (l := mixN gs.length W j) (f := iN) (W.getD j 0) (by simp +decide only [go_sem] <;> simp) (by rw [hWg]; rfl) rfl (mixN_len _ _ _) (by rw [mixN_len]; omega) sz3 rfl rfl) ?_
        rw [mixN_set _ _ _ (by omega)]
        refine goC ?_
        rw [wrap_succ (by omega)]
        refine ⟨j + 1, hc2, by omega, ?_⟩
        simp only [hRs, List.length_append, List.length_cons, List.length_nil]
        exact .wf
      · rw [addN_new hm, ixN_new hm] at hRs
        rw [ixN_new hm] at hWg
        rw [if_neg hm]
        refine goC ?_
        refine ift_ ?_
        refine goD ?_
        refine ARun.p1 rfl rfl (pl_append (b := 1) (tot := D.length) (es := [lB s']) (by simp +decide only [go_sem] <;> rfl) (by simp +decide only [go_sem] <;> rfl) rfl (by simp) Try.underlying67 el71 rfl rfl (by simp) (fun e he => by rw [List.mem_singleton] at he; subst he; exact ⟨rfl, rfl⟩) (by simp; omega) (by simp; omega)) ?_
        rw [show D.map lB ++ [lB s'] = (D ++ [s']).map lB by rw [List.map_append]; rfl]
        refine goC ?_
        refine callA (i5) ?_
        refine goD ?_
        refine ARun.p1 rfl rfl (pl_append (b := 2) (tot := D.length) (es := [str (kbS s')]) (by simp +decide only [go_sem] <;> rfl) (by simp +decide only [go_sem] <;> rfl) rfl (by simp) Try.underlying50 el9 rfl rfl (by simp) (fun e he => by rw [List.mem_singleton] at he; subst he; exact ⟨rfl, rfl⟩) (by simp; omega) (by simp; omega)) ?_
        rw [show (D.map fun s => str (kbS s)) ++ [str (kbS s')] = (D ++ [s']).map fun s => str (kbS s) by rw [List.map_append]; rfl]
        refine goD ?_
        refine ARun.p1 rfl rfl (pl_store_own (b := 6) (tot := gs.length) (i := j) (ty := 3) (sz := 1) (l := mixN gs.length W j) (f := iN) (W.getD j 0) (by simp +decide only [go_sem] <;> simp) (by rw [hWg]; rfl) rfl (mixN_len _ _ _) (by rw [mixN_len]; omega) sz3 rfl rfl) ?_
        rw [mixN_set _ _ _ (by omega)]
        refine goC ?_
        rw [wrap_succ (by omega)]
        refine ⟨j + 1, hc2, by omega, ?_⟩
        simp only [hRs, List.length_append, List.length_cons, List.length_nil]
        exact .wf
    have hc2 := of_decide_eq_false hc2
    obtain rfl : j = gs.length := by omega
    rw [mixN_all _ _ hWl]
    refine AWp.weaken (Wk.selB (E2 := [(1, .lst (gs.map AV.u8)), (4, .ptr 0 1 0 0), (5, .iptr (ntA y) 0), (7, .int 1), (9, .own 1 D.length 0 D.length), (10, .own 2 D.length 0 D.length), (11, .ptr 3 1 0 0), (12, .int k), (13, nL W)]) (H2 := [clA, stS' D, keS D, ⟨112, 2, [.agg [.own 4 k 0 k, .own 5 (k + 1) 0 (k + 1)]]⟩, rwB B, acB (C ++ [v])]) [0, 1, 2, 3, 4, 5] (by decide) (fun b hb => absurd hb (Nat.not_lt_zero _)) ⟨⟨_, rfl, .pu PuB_clA⟩, ⟨_, rfl, .pu (PuB_stS' _)⟩, ⟨_, rfl, .pu (PuB_keS _)⟩, ⟨_, rfl, .one ⟨.own rfl, .own rfl, trivial⟩⟩, ⟨_, rfl, .pu (PuB_rwB _)⟩, ⟨_, rfl, .pu (PuB_acB _)⟩, trivial⟩ (WkR.all ⟨.pu (Pu_u8L gs), .ptr rfl, .pu (Pu_nt y), .pu (.base _), .own rfl, .own rfl, .ptr rfl, .pu (.base _), .ownM (f := iN) (l := W) rfl rfl hWl (Pu_iN _), trivial⟩)) ?_
    refine AWp.exit ?_
    repeat (with_reducible apply thenQ_e)
    refine blkQ_e (thenQ_n ?_)
    refine goD ?_
    refine ARun.p1 rfl rfl (pl_append (b := 4) (tot := k) (es := [nL W]) (by simp +decide only [go_sem] <;> rfl) (by simp +decide only [go_sem] <;> rfl) rfl (by simp [hX2k]) Try.underlying103 el107 rfl rfl (by simp) (fun e he => by rw [List.mem_singleton] at he; subst he; exact ⟨rfl, rfl⟩) (by simp; omega) (by simp; omega)) ?_
    rw [show B.map nL ++ [nL W] = (B ++ [W]).map nL by rw [List.map_append]; rfl]
    refine goC ?_
    rw [wrap_succ (by omega)]
    obtain ⟨t, ht3⟩ := hpre 1
    rw [hD] at hns
    refine ⟨k + 1, by rw [ht3]; simp; omega, by omega, ?_⟩
    simp only [hns, hFs]
    exact .wf
  have hc := of_decide_eq_false hc
  have hkA : k = A.length := by omega
  have hXN : X (2 ^ y.n) = (A, B) := by rw [hfin (by omega)]; exact Prod.ext hA hB
  rw [hXN]
  have hCe : C = A.map fun s => s.getD 1 false := by
    rw [← hC, ← hF]; simp only
    rw [hA, List.take_of_length_le (by omega)]
  simp only
  rw [← hCe]
  have i1 := leastB_ok B C (by omega) (by omega) (by omega) (fun r hr => by have := hwd r hr; omega) (fun r hr x hx => by have := hlt2 r hr x hx; omega)
  refine AWp.weaken (Wk.selB (E2 := [(4, .ptr 0 1 0 0), (11, .ptr 1 1 0 0)]) (H2 := [clA, bxA B C]) [0, 3] (by decide) (fun b hb => absurd hb (Nat.not_lt_zero _)) ⟨⟨_, rfl, .pu PuB_clA⟩, ⟨_, rfl, .one ⟨.ownM (f := nL) (l := B) rfl rfl hX2k (fun x _ c hc => by simp only [AV.cells, List.mem_singleton] at hc; subst hc; exact Pu_nL x), .ownM (f := AV.bool) (l := C) rfl rfl hFl (Pu_bools C), trivial⟩⟩, trivial⟩ (WkR.all ⟨.ptr rfl, .ptr rfl, trivial⟩)) ?_
  refine AWp.exit ?_
  repeat (with_reducible apply thenQ_e)
  refine blkQ_e (thenQ_n ?_)
  refine goC ?_
  generalize lstR (B, C) = res at *
  obtain ⟨r1, r2⟩ := res
  simp only at *
  refine ARun.p1 rfl rfl (pl_callH (e := []) (d' := .agg [.lst (r1.map nL), .own 2 r2.length 0 r2.length]) i1 (CallE.new (fun b hb => by rw [List.mem_singleton] at hb; subst hb; exact PuB_acB _)) rfl (by simp +decide only [go_sem] <;> rfl) (by simp +decide only [go_sem, List.map]; exact ⟨.agg' ⟨.pu (Pu_rowsN B), .pu (Pu_lB C), trivial⟩, trivial⟩) (.agg' ⟨.pu (Pu_rowsN r1), .own rfl, trivial⟩)) ?_
  refine goC ?_
  exact RetH.of (vs := [.agg [.lst (r1.map nL), .own 2 r2.length 0 r2.length]]) [2] (by kernel_rfl) (by decide) (fun b hb => absurd hb (Nat.not_lt_zero _)) ⟨⟨_, rfl, .pu (PuB_acB _)⟩, trivial⟩ (.agg' ⟨.pu (Pu_rowsN r1), .own rfl, trivial⟩)
end Go.Ab
set_option maxHeartbeats 4000000
namespace Go.Ab
open Go Go.Ab Go.Proofs Go.Ab.Ty

theorem Fn.ofH {f : FuncId} {args : List AV} {d d2 : AV} {H' : List ABlk} (h : FnH Try.prog f args [] d H') (hp : PubR (fun _ => none) H' d d2) : Fn Try.prog f args d2 := by
  obtain ⟨g1, g4⟩ := h
  refine ⟨g1, fun w O vs _ hO hl hv => ?_⟩
  have hS : Sit ⟨w, rng noB [], [], noB⟩ O noB [] w :=
    ⟨fun b blk x h => by simp at h, fun b blk h => by simp at h, fun b b' x h => absurd h (Nat.not_lt_zero _), Bel.refl .., hO, fun x b _ hb => absurd hb (Nat.not_lt_zero _), .refl ..⟩
  refine (g4 w O noB vs hS hl fun j a u ha hu => (hv j a u ha hu).lessO fun x hx => ?_).mono ?_
  · rcases hx with hx | ⟨b, hb, _⟩
    · exact hx
    · exact absurd hb (Nat.not_lt_zero _)
  · rintro e w' ⟨v, ι', rfl, hS2, hv2⟩
    have hb := hS2.below
    exact ⟨v, rfl, (hp [] _ w' O ι' noB v hS2 ⟨fun b j blk h => (by cases h), fun j x h => absurd h (Nat.not_lt_zero _)⟩ hv2).lessO fun x hx => .inl hx, hb.os, hb.tape, hb.output, hb.size, fun k hk => hb.block k hk fun ⟨b, hb, _⟩ => absurd hb (Nat.not_lt_zero _)⟩
def nfB (l : List Bool) (i : Nat) : List Bool := (l.take i).map (fun b => !b) ++ l.drop i
theorem nfB_len (l : List Bool) (i : Nat) : (nfB l i).length = l.length := by simp [nfB]; omega
attribute [go_sem] nfB_len
theorem nfB_get {l : List Bool} {i : Nat} (h : i < l.length) : (nfB l i)[i]? = some l[i] := by
  unfold nfB
  rw [List.getElem?_append_right (by simp; omega), List.length_map, List.length_take, Nat.min_eq_left (by omega), Nat.sub_self, List.getElem?_drop, Nat.add_zero, List.getElem?_eq_getElem h]
theorem nfB_set {l : List Bool} {i : Nat} (h : i < l.length) : (nfB l i).set i (!l[i]) = nfB l (i + 1) := by
  unfold nfB
  rw [List.set_append_right _ _ (by simp; omega), List.length_map, List.length_take, Nat.min_eq_left (by omega), Nat.sub_self, List.drop_eq_getElem_cons h, List.set_cons_zero, List.take_succ_eq_append_getElem h, List.map_append, List.append_assoc]; rfl
theorem nfB_all (l : List Bool) : nfB l l.length = l.map fun b => !b := by simp [nfB]
theorem mcF_snoc (gs : List UInt8) (o : Int) (y : Rx) : ∀ (l : List Rx) (a : Mb), mcF gs o (l ++ [y]) (some a) = btR o gs.length (mcF gs o l (some a)) (mcR gs y)
  | [], a => by rw [List.nil_append, mcF, mcF, mcF]; rfl
  | z :: l, a => by rw [List.cons_append, mcF, mcF_snoc gs o y l, mcF]
theorem machB_ok {Ss : List ByteArray} {gs : List UInt8} (hgs : gs = gsB (keyB Ss)) (hg0 : 0 < gs.length) (hg9 : gs.length ≤ 95) (r : Rx) : r.wf → r.flat → r.ok → r.cnt ≤ 14 → (∀ S ∈ setsR r, S ∈ Ss) → (∀ S ∈ setsR r, S.size ≤ maxLen) → FnH Try.prog 86 [encX r, .lst (gs.map AV.u8)] [] (.agg [.lst ((mcR gs r).1.map nL), .own 0 (mcR gs r).2.length 0 (mcR gs r).2.length]) [acB (mcR gs r).2] := by
  induction r using Rx.ind with
  | h o S l ih =>
  intro hw hf hok hc hSs hS
  have it := looseQ_ok (.mk o S l) hok
  have ip := fun ht => plainB_ok (.mk o S l) gs hw ht hc hg0 hg9 hS
  rw [encX_mk] at it ip ⊢
  refine FnH.intro' [(0, .agg [.int o, str S, .lst (l.map encX)]), (1, .lst (gs.map AV.u8))] 2 60 0 Try.func86 (by kernel_rfl) rfl rfl rfl rfl rfl rfl ?_
  refine zs ?_
  refine reA ?_
  refine zOut ?_
  refine AWp.weaken (Wk.selB (E2 := [(1, .lst (gs.map AV.u8)), (2, .iptr (.agg [.int o, str S, .lst (l.map encX)]) 0), (4, .ptr 0 1 0 0)]) (H2 := [clA]) [1] (by decide) (fun b hb => absurd hb (Nat.not_lt_zero _)) ⟨⟨_, rfl, .pu PuB_clA⟩, trivial⟩ (WkR.all ⟨.pu (Pu_u8L gs), PubR.iptr (blk := ⟨24, 3, [.agg [.int o, str S, .lst (l.map encX)]]⟩) (e := .agg [.int o, str S, .lst (l.map encX)]) rfl rfl rfl rfl (show PubRL _ _ [_, _, _] [_, _, _] from ⟨.pu (.base _), .pu (.base _), .pu (Pu_mapX l), trivial⟩), .ptr rfl, trivial⟩)) ?_
  refine goC ?_
  refine callA (it) ?_
  refine goC ?_
  by_cases ht : (Rx.mk o S l).tight
  · refine ift_ ?_ ?_ rfl
    rotate_left
    · simp [ht]
    have ip := ip ht
    rw [show mcR gs (.mk o S l) = plR gs (.mk o S l) by rw [mcR, if_pos ht]]
    generalize plR gs (.mk o S l) = m at *
    refine goC ?_
    refine ARun.p1 rfl rfl (pl_callH (e := []) (d' := .agg [.lst (m.1.map nL), .own 1 m.2.length 0 m.2.length]) ip (CallE.new (fun b hb => by rw [List.mem_singleton] at hb; subst hb; exact PuB_acB _)) rfl (by simp +decide only [go_sem] <;> rfl) (by simp +decide only [go_sem, List.map]; exact ⟨.agg' ⟨.pu (.base _), .pu (.base _), .pu (Pu_mapX l), trivial⟩, .pu (Pu_u8L gs), trivial⟩) (.agg' ⟨.pu (Pu_rowsN m.1), .own rfl, trivial⟩)) ?_
    refine goC ?_
    exact RetH.of (vs := [.agg [.lst (m.1.map nL), .own 1 m.2.length 0 m.2.length]]) [1] (by kernel_rfl) (by decide) (fun b hb => absurd hb (Nat.not_lt_zero _)) ⟨⟨_, rfl, .pu (PuB_acB _)⟩, trivial⟩ (.agg' ⟨.pu (Pu_rowsN m.1), .own rfl, trivial⟩)
  refine iff_ ?_ ?_ rfl
  rotate_left
  · simp [ht]
  obtain ⟨hnd, hwl⟩ := wf_sub.1 hw
  obtain ⟨hf1, hf2⟩ := flat_sub.1 hf
  obtain ⟨_, hok1, hok2⟩ := ok_sub hok
  have ho := not_tight_o hnd ht
  have h46 : ¬ (o = 4 ∨ o = 6) := fun h => ht (tight_sub.2 ⟨by omega, by omega, hf1 h⟩)
  rw [cnt_mk] at hc
  have hmcx : ∀ x ∈ l, MbOk (gK Ss) gs.length (lng x) (mcR gs x) ∧ (mcR gs x).1.length ≤ 2 ^ (2 * x.cnt) := fun x hx => by
    rw [hgs]
    exact mcR_ok x (hwl x hx) (hf2 x hx) fun T hT => hSs T (by rw [setsR]; exact List.mem_append_right _ (mem_setsRs.2 ⟨x, hx, hT⟩))
  replace ih := fun x hx (hcx : x.cnt ≤ 14) => ih x hx (hwl x hx) (hf2 x hx) (hok2 x hx) hcx (fun T hT => hSs T (by rw [setsR]; exact List.mem_append_right _ (mem_setsRs.2 ⟨x, hx, hT⟩))) (fun T hT => hS T (by rw [setsR]; exact List.mem_append_right _ (mem_setsRs.2 ⟨x, hx, hT⟩)))
  have hMe : mcR gs (.mk o S l) = if o = 8 then notB (mcH gs l) else mcF gs o l none := by rw [mcR, if_neg ht]
  rw [hMe]
  clear it ip hMe
  unfold nodeOk at hnd
  rw [if_neg (by omega)] at hnd
  obtain ⟨x, l', rfl⟩ : ∃ x l', l = x :: l' := by
    match l, hnd with
    | x :: l', _ => exact ⟨x, l', rfl⟩
    | [], hn => simp at hn; omega
  have hmx : x ∈ x :: l' := by simp
  have i0 := ih x hmx (by rw [cnts] at hc; omega)
  have hmx0 := hmcx x hmx
  have hidx0 : ((x :: l').map encX)[0]? = some (encX x) := rfl
  have hml : ((x :: l').map encX).length = (x :: l').length := List.length_map _
  obtain ⟨o1, s1, l1⟩ := x
  rw [encX_mk] at i0 hidx0
  refine goC ?_
  refine ARun.q1 rfl rfl (ql_indexAddr_lst (k := .i64) (n := 0) (by simp +decide only [go_sem] <;> rfl) rfl Try.underlying22 (by omega) (e := .agg [.int o1, str s1, .lst (l1.map encX)]) hidx0 (by kernel_rfl)) ?_
  refine goC ?_
  generalize hM0 : mcR gs (.mk o1 s1 l1) = m at *
  refine ARun.p1 rfl rfl (pl_callH (e := []) (d' := .agg [.lst (m.1.map nL), .own 1 m.2.length 0 m.2.length]) i0 (CallE.new (fun b hb => by rw [List.mem_singleton] at hb; subst hb; exact PuB_acB _)) rfl (by simp +decide only [go_sem] <;> rfl) (by simp +decide only [go_sem, List.map]; exact ⟨.agg' ⟨.pu (.base _), .pu (.base _), .pu (Pu_mapX l1), trivial⟩, .pu (Pu_u8L gs), trivial⟩) (.agg' ⟨.pu (Pu_rowsN m.1), .own rfl, trivial⟩)) ?_
  refine goC ?_
  by_cases h8 : o = 8
  · rw [decide_eq_true h8, if_pos h8, mcH, hM0]
    refine ift_ ?_
    refine goC ?_
    have hml2 := nfB_len m.2
    refine AWp.loop (J := fun i : Nat => i ≤ m.2.length) (fun i => ⟨[(4, .ptr 0 1 0 0), (5, .ptr 2 1 0 0), (6, .int i)], [clA, acB (nfB m.2 i), ⟨112, 2, [.agg [.lst (m.1.map nL), .own 1 m.2.length 0 m.2.length]]⟩]⟩) (fun i => m.2.length - i) 0 (Nat.zero_le _) .wf ?_
    intro i hi
    have hml3 := nfB_len m.2 i
    have hbl : m.2.length ≤ 300000000 := by
      rw [hmx0.1.gm.al]
      refine Nat.le_trans hmx0.2 (Nat.le_trans (Nat.pow_le_pow_right (by decide) (show 2 * _ ≤ 28 from ?_)) (by decide))
      rw [cnts] at hc; omega
    have hmm : ((nfB m.2 i).map AV.bool).length = m.2.length := by rw [List.length_map]; exact hml3
    refine goC ?_
    refine ifA (fun hc2 => ?_) (fun hc2 => ?_)
    · have hc2 := of_decide_eq_true hc2
      have hc2 : i < m.2.length := by omega
      have hg := nfB_get hc2
      have hset := nfB_set hc2
      have hnv : nth 0 (nfB m.2 i) (i : Int) = m.2[i] := by
        rw [nth_eq (by omega)]
        exact (List.getElem?_eq_some_iff.1 hg).2
      generalize m.2[i] = bv at *
      refine goC ?_
      refine drA (k := 9) follows (hr := ?_)
      refine goD ?_
      rw [hnv]
      refine ARun.p1 rfl rfl (pl_store_own (b := 1) (tot := m.2.length) (i := i) (ty := 4) (sz := 1) (l := nfB m.2 i) (f := AV.bool) (!bv) (by simp +decide only [go_sem] <;> simp) (by simp +decide only [go_sem] <;> rfl) rfl hml3 (by omega) sz4 rfl rfl) ?_
      rw [hset]
      refine goC ?_
      rw [wrap_succ (by omega)]
      exact ⟨i + 1, hc2, by omega, .wf⟩
    have hc2 := of_decide_eq_false hc2
    obtain rfl : i = m.2.length := by omega
    rw [nfB_all]
    refine AWp.exit ?_
    repeat (with_reducible apply thenQ_e)
    refine blkQ_e ?_
    refine goC ?_
    rw [show (notB m).2.length = m.2.length from List.length_map _]
    exact RetH.of (vs := [.agg [.lst (m.1.map nL), .own 1 m.2.length 0 m.2.length]]) [1] (by kernel_rfl) (by decide) (fun b hb => absurd hb (Nat.not_lt_zero _)) ⟨⟨_, rfl, .pu (PuB_acB _)⟩, trivial⟩ (.agg' ⟨.pu (Pu_rowsN m.1), .own rfl, trivial⟩)
  rw [decide_eq_false h8, if_neg h8]
  refine iff_ ?_
  refine goC ?_
  rw [mcF, hM0]
  have ho57 : o = 5 ∨ o = 7 := by omega
  have hMk := fun k => mcF_ok (Ss := Ss) o ho57 (l'.take k) (fun y hy => by rw [← hgs]; exact hmcx y (List.mem_cons_of_mem _ (List.mem_of_mem_take hy))) m _ _ (by rw [← hgs]; exact hmx0.1) hmx0.2
  simp only [← hgs] at hMk
  generalize hMM : (fun k => mcF gs o (l'.take k) (some m)) = Mf
  have hM00 : Mf 0 = m := by rw [← hMM]; simp only [List.take_zero]; rw [mcF]; rfl
  have hMl : mcF gs o l' (some m) = Mf l'.length := by rw [← hMM]; simp only [List.take_length]
  have hMs : ∀ k (h : k < l'.length), Mf (k + 1) = btR o gs.length (Mf k) (mcR gs l'[k]) := fun k h => by
    rw [← hMM]; simp only
    rw [List.take_succ_eq_append_getElem h, mcF_snoc]
  have hMo : ∀ k, Gm (gK Ss) gs.length (Mf k).1 (Mf k).2 ∧ (Mf k).1.length ≤ 2 ^ (2 * ((Rx.mk o1 s1 l1).cnt + cnts (l'.take k))) := fun k => by
    rw [← hMM]; exact ⟨(hMk k).1.gm, (hMk k).2⟩
  rw [hMl]
  clear hMk hMM
  have hcnt : ∀ k (h : k < l'.length), (Rx.mk o1 s1 l1).cnt + cnts (l'.take k) + l'[k].cnt ≤ 14 := fun k h => by
    have h1 : cnts (l'.take (k + 1)) = cnts (l'.take k) + l'[k].cnt := by
      rw [List.take_succ_eq_append_getElem h, cnts_app, cnts, cnts]; rfl
    have h2 := cnts_app (l'.take (k + 1)) (l'.drop (k + 1))
    rw [List.take_append_drop] at h2
    rw [cnts] at hc; omega
  have Pu_ip : Pu (.iptr (.agg [.int o, str S, .lst ((Rx.mk o1 s1 l1 :: l').map encX)]) 0) := .iptr fun c hc => by
    simp only [AV.cells, List.mem_cons, List.not_mem_nil, or_false] at hc
    rcases hc with rfl | rfl | rfl
    · exact .base _
    · exact .base _
    · exact Pu_mapX _
  have hl8 : l'.length ≤ 13 := by
    have := len_cntsN l'
    rw [cnts] at hc; omega
  refine AWp.weaken (Wk.selB (E2 := [(1, .lst (gs.map AV.u8)), (2, .iptr (.agg [.int o, str S, .lst ((Rx.mk o1 s1 l1 :: l').map encX)]) 0), (4, .ptr 0 1 0 0), (5, .ptr 1 1 0 0), (7, .int ((0 + 1 : Nat) : Int))]) (H2 := [clA, ⟨112, 2, [.agg [.lst (m.1.map nL), .own 2 m.2.length 0 m.2.length]]⟩, acB m.2]) [0, 2, 1] (by decide) (fun b hb => absurd hb (Nat.not_lt_zero _)) ⟨⟨_, rfl, .pu PuB_clA⟩, ⟨_, rfl, .one ⟨.pu (Pu_rowsN m.1), .own rfl, trivial⟩⟩, ⟨_, rfl, .pu (PuB_acB _)⟩, trivial⟩ (WkR.all ⟨.pu (Pu_u8L gs), .pu Pu_ip, .ptr rfl, .ptr rfl, .pu (.base _), trivial⟩)) ?_
  refine AWp.loop (J := fun k : Nat => k ≤ l'.length) (fun k => ⟨[(1, .lst (gs.map AV.u8)), (2, .iptr (.agg [.int o, str S, .lst ((Rx.mk o1 s1 l1 :: l').map encX)]) 0), (4, .ptr 0 1 0 0), (5, .ptr 1 1 0 0), (7, .int ((k + 1 : Nat) : Int))], [clA, ⟨112, 2, [.agg [.lst ((Mf k).1.map nL), .own 2 (Mf k).2.length 0 (Mf k).2.length]]⟩, acB (Mf k).2]⟩) (fun k => l'.length - k) 0 (Nat.zero_le _) (by rw [hM00]; exact .wf) ?_
  intro k hk
  rw [List.length_cons] at hml
  refine goD ?_
  refine ifA (fun hc3 => ?_) (fun hc3 => ?_)
  · have hc3 := of_decide_eq_true hc3
    have hc3 : k < l'.length := by omega
    have hMs := hMs k hc3
    have hcnt := hcnt k hc3
    obtain ⟨hG1, hG2⟩ := hMo k
    have hmem : l'[k] ∈ Rx.mk o1 s1 l1 :: l' := List.mem_cons_of_mem _ (List.getElem_mem hc3)
    have hyo := hmcx _ hmem
    have iy := Fn.ofH (ih _ hmem (by omega)) (d2 := .agg [.lst ((mcR gs l'[k]).1.map nL), lB (mcR gs l'[k]).2]) (.agg' ⟨.pu (Pu_rowsN _), .ownM (f := AV.bool) rfl rfl rfl (Pu_bools _), trivial⟩)
    have hidx : ((Rx.mk o1 s1 l1 :: l').map encX)[k + 1]? = some (encX l'[k]) := by
      rw [List.map_cons, List.getElem?_cons_succ, List.getElem?_map, List.getElem?_eq_getElem hc3]; rfl
    have ib := both_ok (Mf k) (mcR gs l'[k]) o hG1 hyo.1.gm hg0 hg9 (by
      refine Nat.le_trans (Nat.mul_le_mul hG2 hyo.2) ?_
      rw [← Nat.pow_add]
      exact Nat.le_trans (Nat.pow_le_pow_right (by decide) (show _ ≤ 28 by omega)) (by decide))
    rw [← hMs] at ib
    generalize mcR gs l'[k] = N at *
    generalize Mf k = M at *
    generalize hRR : Mf (k + 1) = R at *
    generalize l'[k] = y at *
    obtain ⟨o2, s2, l2⟩ := y
    rw [encX_mk] at iy hidx
    refine goC ?_
    refine AWp.weaken (Wk.selB (E2 := [(1, .lst (gs.map AV.u8)), (2, .iptr (.agg [.int o, str S, .lst ((Rx.mk o1 s1 l1 :: l').map encX)]) 0), (4, .ptr 0 1 0 0), (5, .ptr 1 1 0 0), (7, .int ((k + 1 : Nat) : Int))]) (H2 := [clA, bxA M.1 M.2]) [0, 1] (by decide) (fun b hb => absurd hb (Nat.not_lt_zero _)) ⟨⟨_, rfl, .pu PuB_clA⟩, ⟨_, rfl, .one ⟨.pu (Pu_rowsN M.1), .ownM (f := AV.bool) (l := M.2) rfl rfl rfl (Pu_bools M.2), trivial⟩⟩, trivial⟩ (WkR.all ⟨.pu (Pu_u8L gs), .pu Pu_ip, .ptr rfl, .ptr rfl, .pu (.base _), trivial⟩)) ?_
    with_reducible apply AWp.drawK (k := 11) [none, none, none, none, none, none, none, none, none, none, some 0] (fun c => match c with
      | 0 => [clA, bxA M.1 M.2]
      | _ => [clA, bxA M.1 M.2, acB R.2]) 1 follows
    · refine ⟨rfl, rfl, by kernel_rfl, by decide, ?_, ?_⟩
      · simp +decide only [go_sem, List.map, List.take]; rfl
      · simp +decide only [go_sem, List.map, List.drop]; rfl
    · kernel_rfl
    · rfl
    refine GRun.qf1 (v := .agg [.lst (M.1.map nL), lB M.2]) rfl rfl (by simp +decide only [go_sem] <;> rfl) (by simp +decide only [go_sem] <;> rfl) ?_
    refine GRun.qf1 (v := .iptr (.agg [.int o, str S, .lst ((Rx.mk o1 s1 l1 :: l').map encX)]) 2) rfl rfl (by simp +decide only [go_sem] <;> rfl) (by simp +decide only [go_sem] <;> rfl) ?_
    refine GRun.qf1 (v := .lst ((Rx.mk o1 s1 l1 :: l').map encX)) rfl rfl (by simp +decide only [go_sem] <;> rfl) (by simp +decide only [go_sem] <;> rfl) ?_
    refine GRun.qf1 (v := .int ((k + 1 : Nat) : Int)) rfl rfl (by simp +decide only [go_sem] <;> rfl) (by simp +decide only [go_sem] <;> rfl) ?_
    refine GRun.q1 (v := .iptr (.agg [.int o2, str s2, .lst (l2.map encX)]) 0) rfl rfl (fun d _ => ql_indexAddr_lst (k := .i64) (n := ((k + 1 : Nat) : Int)) (by simp +decide only [go_sem] <;> rfl) (by simp +decide only [go_sem] <;> rfl) Try.underlying22 (by omega) (e := .agg [.int o2, str s2, .lst (l2.map encX)]) hidx (by kernel_rfl)) ?_
    refine GRun.qf1 (v := .agg [.int o2, str s2, .lst (l2.map encX)]) rfl rfl (by simp +decide only [go_sem] <;> rfl) (by simp +decide only [go_sem] <;> rfl) ?_
    refine GRun.qf1 (v := .lst (gs.map AV.u8)) rfl rfl (by simp +decide only [go_sem] <;> rfl) (by simp +decide only [go_sem] <;> rfl) ?_
    refine GRun.q1 (v := .agg [.lst (N.1.map nL), lB N.2]) rfl rfl (fun d _ => ql_callC iy rfl (by simp +decide only [go_sem] <;> rfl) (by simp +decide only [go_sem, List.map] <;> rfl) (by simp)) ?_
    refine GRun.qf1 (v := .iptr (.agg [.int o, str S, .lst ((Rx.mk o1 s1 l1 :: l').map encX)]) 0) rfl rfl (by simp +decide only [go_sem] <;> rfl) (by simp +decide only [go_sem] <;> rfl) ?_
    refine GRun.qf1 (v := .int o) rfl rfl (by simp +decide only [go_sem] <;> rfl) (by simp +decide only [go_sem] <;> rfl) ?_
    refine GRun.p1 (v := .agg [.lst (R.1.map nL), .own 2 R.2.length 0 R.2.length]) rfl rfl (fun ρ' h => ?_) ?_
    · refine pl_callH (ρ := ρ') (e := []) (HC := [clA, bxA M.1 M.2]) (d' := .agg [.lst (R.1.map nL), .own 2 R.2.length 0 R.2.length]) ib (CallE.new (fun b hb => by rw [List.mem_singleton] at hb; subst hb; exact PuB_acB _)) rfl ((h (.func 114) (by simp [Op.operands, Call.operands])).trans (by simp +decide only [go_sem] <;> rfl)) ?_ (.agg' ⟨.pu (Pu_rowsN R.1), .own rfl, trivial⟩)
      show MvL _ _ [ρ' (.tmp 48), ρ' (.tmp 55), ρ' (.tmp 57)] _
      rw [h (.tmp 48) (by simp [Op.operands, Call.operands]), h (.tmp 55) (by simp [Op.operands, Call.operands]), h (.tmp 57) (by simp [Op.operands, Call.operands])]
      simp +decide only [go_sem]
      exact ⟨.agg' ⟨.pu (Pu_rowsN M.1), .pu (Pu_lB M.2), trivial⟩, .agg' ⟨.pu (Pu_rowsN N.1), .pu (Pu_lB N.2), trivial⟩, .pu (.base _), trivial⟩
    refine GRun.nil ?_
    refine rcA ?_
    refine goC ?_
    rw [wrap_succ (by omega)]
    refine ⟨k + 1, hc3, by omega, ?_⟩
    simp only [hRR]
    exact .wf
  have hc3 := of_decide_eq_false hc3
  obtain rfl : k = l'.length := by omega
  generalize Mf l'.length = M at *
  refine AWp.exit ?_
  repeat (with_reducible apply thenQ_e)
  refine blkQ_e (thenQ_n ?_)
  refine goC ?_
  exact RetH.of (vs := [.agg [.lst (M.1.map nL), .own 2 M.2.length 0 M.2.length]]) [2] (by kernel_rfl) (by decide) (fun b hb => absurd hb (Nat.not_lt_zero _)) ⟨⟨_, rfl, .pu (PuB_acB _)⟩, trivial⟩ (.agg' ⟨.pu (Pu_rowsN M.1), .own rfl, trivial⟩)
end Go.Ab
set_option maxHeartbeats 4000000
namespace Go.Ab
open Go Go.Ab Go.Proofs Go.Ab.Ty

@[simp] theorem Pu_strsG (L : List ByteArray) : Pu (.lst (L.map str)) := .lst fun e he c hc => by
  obtain ⟨x, _, rfl⟩ := List.mem_map.1 he
  simp only [AV.cells, List.mem_singleton] at hc; subst hc; exact .base _
theorem Pu_t2 (u v : Value) : Pu (.tup [.base u, .base v]) := .tup fun c hc => by
  simp only [List.mem_cons, List.not_mem_nil, or_false] at hc
  rcases hc with rfl | rfl <;> exact .base _
theorem gsB_pos (K : Nat → List UInt8) : 0 < (gsB K).length ∧ (gsB K).length ≤ 95 := by
  rw [gsB_len]
  exact ⟨Nat.lt_of_le_of_lt (Nat.zero_le _) (grN_lt K (i := 0) (n := 95) (by decide)), fsN_len K 95⟩
theorem bu_gsB (K : Nat → List UInt8) : (fsN K 95).map bu = (gsB K).map AV.u8 := by
  unfold gsB; rw [List.map_map]; rfl
noncomputable def mchR (r : Rx) : Mb := mcR (gsB (keyB (setsR r))) r
theorem setsR_size : ∀ r : Rx, r.ok → ∀ S ∈ setsR r, S.size ≤ maxLen := by
  intro r
  induction r using Rx.ind with
  | h o T l ih =>
  intro hok S hS
  obtain ⟨h1, h2, h3⟩ := ok_sub hok
  rw [setsR] at hS
  rcases List.mem_append.1 hS with h | h
  · split at h
    · rw [List.mem_singleton] at h; subst h; exact h1
    · cases h
  · obtain ⟨x, hx, h⟩ := mem_setsRs.1 h
    exact ih x hx (h3 x hx) S h
theorem machD_ok (r : Rx) (hw : r.wf) (hx : r.fixed) (hok : r.ok) : Fn Try.prog 86 [encX r, .lst ((gsB (keyB (setsR r))).map AV.u8)] (.agg [.lst ((mchR r).1.map nL), lB (mchR r).2]) :=
  Fn.ofH (machB_ok (Ss := setsR r) rfl (gsB_pos _).1 (gsB_pos _).2 r hw hx.2 hok hx.1 (fun S h => h) (setsR_size r hok)) (.agg' ⟨.pu (Pu_rowsN _), .ownM (f := AV.bool) rfl rfl rfl (Pu_bools _), trivial⟩)
end Go.Ab
