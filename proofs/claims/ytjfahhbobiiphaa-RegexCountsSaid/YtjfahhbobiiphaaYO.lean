/- Part of the proof. -/
import Derived.Test.YtjfahhbobiiphaaYN
import Derived.Test.YtjfahhbobiiphaaYK
import Derived.Test.YtjfahhbobiiphaaYJ
import Derived.Test.YtjfahhbobiiphaaAbO
set_option linter.unusedSimpArgs false
set_option linter.unusedVariables false
set_option maxHeartbeats 4000000
namespace Go.Ab
open Go Go.Ab Go.Proofs Go.Ab.Ty

noncomputable def dC (cs : List Cx) (s : List B64) (b : UInt8) : List B64 := List.zipWith (fun c x => nxC c x b) cs s
def ansC (cs : List Cx) (s : List B64) : List Bool := List.zipWith accC cs s
def gsB (K : Nat → List UInt8) : List UInt8 := (fsN K 95).map fun i => UInt8.ofNat (32 + i)
noncomputable def xsC (cs : List Cx) (k : Nat) : List (List B64) × List (List Nat) := xs (dC cs) (gsB (keyB (setsC cs))) (List.replicate cs.length (bt 63)) k
noncomputable def madeR (r : Rx) : Option (List Int × List (List Nat) × List Bool) :=
  if (spA r []).1.2 = false then none
  else if (xsC (spA r []).2 20001).1.length ≤ 20000 then some (grpG (keyB (setsC (spA r []).2)) 95, (xsC (spA r []).2 20001).2, (xsC (spA r []).2 20001).1.map fun s => hA (ansC (spA r []).2 s) (spA r []).1.1)
  else none
abbrev nL (l : List Nat) : AV := .lst (l.map fun x : Nat => AV.int x)
abbrev mkA (G : List Int) (rows : List (List Nat)) (acs : List Bool) : AV := .agg (G.map AV.int ++ [.lst (rows.map nL), lB acs])
def encMk (m : List Int × List (List Nat) × List Bool) : AV := .iptr (mkA m.1 m.2.1 m.2.2) 0
def encMd : Option (List Int × List (List Nat) × List Bool) → AV
  | none => .tup [.base (.pointer none), .bool false]
  | some m => .tup [encMk m, .bool true]
abbrev Ko (l : List B64) : ByteArray := bsL (keyO l)
abbrev boxL (cs : List Cx) : ABlk := ⟨155, 1, [.lst (cs.map encCx)]⟩
abbrev cpT (n : Nat) : ABlk := ⟨155, 1, [.own 2 n 0 n]⟩
theorem cpT_in {r : Nat → Option Nat} {H : List ABlk} (h1 : r 2 = some 1) (n : Nat) : BlkMv r H (cpT n) (cpS n) := .one (show MvL r H [_] [_] from ⟨.own h1, trivial⟩)
theorem cpT_out {r : Nat → Option Nat} {H : List ABlk} (h1 : r 1 = some 2) (n : Nat) : BlkMv r H (cpS n) (cpT n) := .one (show MvL r H [_] [_] from ⟨.own h1, trivial⟩)
abbrev akB (oa fa : Int) (la : List Ask) : ABlk := ⟨158, 3, [.agg [.int oa, .int fa, .lst (la.map encA)]]⟩
theorem PuB_ak (oa fa : Int) (la : List Ask) : ∀ e ∈ (akB oa fa la).es, ∀ c ∈ e.cells, Pu c := fun e he c hc => by
  rw [List.mem_singleton] at he; subst he
  have := Pu_Ac (.mk oa fa la); rw [encA_mk] at this; exact this c hc
theorem PuB_boxL (cs : List Cx) : ∀ e ∈ (boxL cs).es, ∀ c ∈ e.cells, Pu c := fun e he c hc => by
  rw [List.mem_singleton] at he; subst he
  simp only [AV.cells, List.mem_singleton] at hc; subst hc; exact Pu_cxL cs
def stv (n j : Nat) : List B64 := (List.range n).map fun i => if i < j then bt 63 else 0
theorem stv_len (n j : Nat) : (stv n j).length = n := by simp [stv]
attribute [go_sem] stv_len
theorem stv_0 (n : Nat) : (stv n 0).map u6 = List.replicate n (.base (.int .u64 0)) := by
  refine List.ext_getElem (by simp [stv]) fun i h1 h2 => ?_
  simp [stv]
theorem stv_set (n j : Nat) (h : j < n) : (stv n j).set j (bt 63) = stv n (j + 1) := by
  refine List.ext_getElem (by simp [stv]) fun i h1 h2 => ?_
  rw [List.getElem_set]
  simp only [stv, List.getElem_map, List.getElem_range]
  split
  · rename_i e; subst e; rw [if_pos (by omega)]
  · rename_i e
    by_cases h3 : i < j
    · rw [if_pos h3, if_pos (by omega)]
    · rw [if_neg h3, if_neg (by omega)]
theorem stv_all (n : Nat) : stv n n = List.replicate n (bt 63) := by
  refine List.ext_getElem (by simp [stv]) fun i h1 h2 => ?_
  simp [stv]
  rw [stv_len] at h1
  intro h; omega
theorem u6_63 : AV.base (.int .u64 9223372036854775808) = u6 (bt 63) := by
  have : (bt 63).toNat = 9223372036854775808 := by decide
  unfold u6; rw [this]; rfl
@[simp] theorem Pu_u8L (l : List UInt8) : Pu (.lst (l.map AV.u8)) := .lst fun e he c hc => by
  obtain ⟨x, _, rfl⟩ := List.mem_map.1 he
  simp only [AV.cells, List.mem_singleton] at hc; subst hc; exact .base _
@[simp] theorem Pu_u6L (l : List B64) : Pu (u6s l) := .lst fun e he c hc => by
  obtain ⟨x, _, rfl⟩ := List.mem_map.1 he
  simp only [AV.cells, List.mem_singleton] at hc; subst hc; exact .base _
theorem NilL.app {H : List ABlk} {B B' : List AV} : ∀ {A : List AV}, (∀ c ∈ A, Pu c) → NilL H B B' → NilL H (A ++ B) (A ++ B')
  | [], _, h => h
  | a :: A, hA, h => ⟨.pu (hA a (by simp)), NilL.app (fun c hc => hA c (by simp [hc])) h⟩
theorem PubRL.app {r : Nat → Option Nat} {H : List ABlk} {B B' : List AV} : ∀ {A : List AV}, (∀ c ∈ A, Pu c) → PubRL r H B B' → PubRL r H (A ++ B) (A ++ B')
  | [], _, h => h
  | a :: A, hA, h => ⟨.pu (hA a (by simp)), PubRL.app (fun c hc => hA c (by simp [hc])) h⟩
theorem Pu_bools (l : List Bool) : ∀ x ∈ l, ∀ c ∈ (AV.bool x).cells, Pu c := fun x _ c hc => by
  simp only [AV.cells, List.mem_singleton] at hc; subst hc; exact .base _
theorem Pu_ints (G : List Int) : ∀ c ∈ G.map AV.int, Pu c := fun c hc => by
  obtain ⟨x, _, rfl⟩ := List.mem_map.1 hc; exact .base _
abbrev mcM (G : List Int) (nr na : Nat) : ABlk := ⟨105, 97, [.agg (G.map AV.int ++ [.own 6 nr 0 nr, .own 7 na 0 na])]⟩
abbrev stB (all : List (List B64)) : ABlk := ⟨163, 1, all.map u6s⟩
abbrev rwB (rows : List (List Nat)) : ABlk := ⟨107, 1, rows.map nL⟩
abbrev acB (l : List Bool) : ABlk := ⟨4, 1, l.map AV.bool⟩
abbrev mdH (o : Int) (s : ByteArray) (l : List Rx) (cs : List Cx) (oa fa : Int) (la : List Ask) (G : List Int) (all : List (List B64)) (rows : List (List Nat)) (acs : List Bool) : List ABlk :=
  [boxX o s l, boxL cs, akB oa fa la, mcM G rows.length acs.length, stB all, mpB (numM Ko all), rwB rows, acB acs]
theorem PuB_stB (all : List (List B64)) : ∀ e ∈ (stB all).es, ∀ c ∈ e.cells, Pu c := fun e he c hc => by
  obtain ⟨x, _, rfl⟩ := List.mem_map.1 he
  simp only [AV.cells, List.mem_singleton] at hc; subst hc; exact Pu_u6L x
@[simp] theorem Pu_nL (l : List Nat) : Pu (nL l) := .lst fun e he c hc => by
  obtain ⟨x, _, rfl⟩ := List.mem_map.1 he
  simp only [AV.cells, List.mem_singleton] at hc; subst hc; exact .base _
theorem PuB_rwB (rows : List (List Nat)) : ∀ e ∈ (rwB rows).es, ∀ c ∈ e.cells, Pu c := fun e he c hc => by
  obtain ⟨x, _, rfl⟩ := List.mem_map.1 he
  simp only [AV.cells, List.mem_singleton] at hc; subst hc; exact Pu_nL x
theorem PuB_acB (l : List Bool) : ∀ e ∈ (acB l).es, ∀ c ∈ e.cells, Pu c := fun e he c hc => by
  obtain ⟨x, _, rfl⟩ := List.mem_map.1 he
  simp only [AV.cells, List.mem_singleton] at hc; subst hc; exact .base _
theorem Ko_inj (a b : List B64) (h : Ko a = Ko b) : a = b := keyO_inj a b (by have := congrArg (fun s : ByteArray => s.data.toList) h; simpa using this)
theorem mdH_nil {H : List ABlk} (o : Int) (s : ByteArray) (l : List Rx) (cs : List Cx) (oa fa : Int) (la : List Ask) (G : List Int) (all : List (List B64)) (rows : List (List Nat)) (acs : List Bool) : NilB H (mdH o s l cs oa fa la G all rows acs) (mdH o s l cs oa fa la G all rows acs) :=
  ⟨.pu (PuB_box o s l), .pu (PuB_boxL cs), .pu (PuB_ak oa fa la), .one (NilL.app (Pu_ints G) ⟨.own, .own, trivial⟩), .pu (PuB_stB all), .pu (PuB_mpB _), .pu (PuB_rwB rows), .pu (PuB_acB acs), trivial⟩
theorem mdH_pub {H : List ABlk} {k : Nat} (hk : 8 ≤ k) (o : Int) (s : ByteArray) (l : List Rx) (cs : List Cx) (oa fa : Int) (la : List Ask) (G : List Int) (all : List (List B64)) (rows : List (List Nat)) (acs : List Bool) (T : List ABlk) (hT : PuBl T) : ∀ blk ∈ mdH o s l cs oa fa la G all rows acs ++ T, ∀ e ∈ blk.es, ∀ x ∈ e.cells, Pub H k x x := by
  intro blk hb e he x hx
  simp only [mdH, List.cons_append, List.nil_append, List.mem_cons] at hb
  rcases hb with rfl | rfl | rfl | rfl | rfl | rfl | rfl | rfl | hb
  · exact .pu (PuB_box o s l e he x hx)
  · exact .pu (PuB_boxL cs e he x hx)
  · exact .pu (PuB_ak oa fa la e he x hx)
  · rw [List.mem_singleton] at he; subst he
    simp only [AV.cells, List.mem_append, List.mem_cons, List.not_mem_nil, or_false] at hx
    rcases hx with hx | rfl | rfl
    · exact .pu (Pu_ints G x hx)
    · exact .own (by omega)
    · exact .own (by omega)
  · exact .pu (PuB_stB all e he x hx)
  · exact .pu (PuB_mpB _ e he x hx)
  · exact .pu (PuB_rwB rows e he x hx)
  · exact .pu (PuB_acB acs e he x hx)
  · exact .pu (hT blk hb e he x hx)
theorem dC_len (cs : List Cx) : ∀ (w : List UInt8) (s : List B64), s.length = cs.length → (w.foldl (dC cs) s).length = cs.length
  | [], s, h => h
  | b :: w, s, h => dC_len cs w _ (by simp [dC, h])
theorem xsC_len {cs : List Cx} {gs : List UInt8} {s0 : List B64} (h0 : s0.length = cs.length) (k : Nat) : ∀ s ∈ (xs (dC cs) gs s0 k).1, s.length = cs.length := fun s hs => by
  obtain ⟨w, _, rfl⟩ := (xs_ok (dC cs) gs s0 k).reach s hs
  exact dC_len cs w s0 h0
instance : OfNat (List B64) 0 := ⟨[]⟩
@[simp] theorem Pu_cxI (c : Cx) : Pu (.iptr (cxA c) 0) := Pu_cx c
theorem mcM_95 {G : List Int} (hG : G.length = 95) (a b : AV) : (G.map AV.int ++ [a, b])[95]? = some a ∧ (G.map AV.int ++ [a, b])[96]? = some b := by
  refine ⟨?_, ?_⟩
  · rw [List.getElem?_append_right (by rw [List.length_map, hG]; omega), List.length_map, hG]; rfl
  · rw [List.getElem?_append_right (by rw [List.length_map, hG]; omega), List.length_map, hG]; rfl
theorem ql_ldA {H : List ABlk} {ρ : Operand → AV} {x : Operand} {G : List Int} {nr na : Nat} (hx : ρ x = .ptr 3 1 0 96) (hb : H[3]? = some (mcM G nr na)) (hG : G.length = 95) : QL Try.prog H ρ (.load 71 x) (.own 7 na 0 na) := by
  refine ql_fun1 ?_
  have h := (mcM_95 hG (.own 6 nr 0 nr) (.own 7 na 0 na)).2
  simp only [qfun, hx, hb, List.length_cons, List.length_nil, Nat.zero_add, if_true, List.getElem?_cons_zero, agg71, sz71, ldE, AV.cells, h]
theorem pl_stN {H : List ABlk} {ρ : Operand → AV} {x y : Operand} {G : List Int} {nr nr' na : Nat} (hx : ρ x = .ptr 3 1 0 95) (hy : ρ y = .own 6 nr' 0 nr') (hb : H[3]? = some (mcM G nr na)) (hG : G.length = 95) : PL Try.prog H ρ (.store 103 x y) .bad (H.set 3 (mcM G nr' na)) := by
  refine pl_store (b := 3) (tot := 1) (i := 0) (off := 95) (blk := mcM G nr na) (v := .own 6 nr' 0 nr') hx hy hb rfl rfl sz103 rfl ?_
  simp only [stE, AV.cells, List.length_append, List.length_map, List.length_cons, List.length_nil, hG]
  rw [if_pos (by omega), List.set_append_right _ _ (by simp [hG])]
  simp [hG]
theorem pl_stA {H : List ABlk} {ρ : Operand → AV} {x y : Operand} {G : List Int} {nr na na' : Nat} (hx : ρ x = .ptr 3 1 0 96) (hy : ρ y = .own 7 na' 0 na') (hb : H[3]? = some (mcM G nr na)) (hG : G.length = 95) : PL Try.prog H ρ (.store 71 x y) .bad (H.set 3 (mcM G nr na')) := by
  refine pl_store (b := 3) (tot := 1) (i := 0) (off := 96) (blk := mcM G nr na) (v := .own 7 na' 0 na') hx hy hb rfl rfl sz71 rfl ?_
  simp only [stE, AV.cells, List.length_append, List.length_map, List.length_cons, List.length_nil, hG]
  rw [if_pos (by omega), List.set_append_right _ _ (by simp [hG])]
  simp [hG]
def mixv (n : Nat) (D : List B64) (j : Nat) : List B64 := (List.range n).map fun i => if i < j then D.getD i 0 else 0
theorem mixv_len (n : Nat) (D : List B64) (j : Nat) : (mixv n D j).length = n := by simp [mixv]
attribute [go_sem] mixv_len
theorem mixv_0 (n : Nat) (D : List B64) : (mixv n D 0).map u6 = List.replicate n (.base (.int .u64 0)) := by
  refine List.ext_getElem (by simp [mixv]) fun i h1 h2 => ?_
  simp [mixv]
theorem mixv_set (n : Nat) (D : List B64) (j : Nat) (h : j < n) : (mixv n D j).set j (D.getD j 0) = mixv n D (j + 1) := by
  refine List.ext_getElem (by simp [mixv]) fun i h1 h2 => ?_
  rw [List.getElem_set]
  simp only [mixv, List.getElem_map, List.getElem_range]
  split
  · rename_i e; subst e; rw [if_pos (by omega)]
  · rename_i e
    by_cases h3 : i < j
    · rw [if_pos h3, if_pos (by omega)]
    · rw [if_neg h3, if_neg (by omega)]
theorem mixv_all (n : Nat) (D : List B64) (h : D.length = n) : mixv n D n = D := by
  refine List.ext_getElem (by simp [mixv, h]) fun i h1 h2 => ?_
  rw [mixv_len] at h1
  simp only [mixv, List.getElem_map, List.getElem_range]
  rw [if_pos h1, List.getD_eq_getElem?_getD, List.getElem?_eq_getElem h2]; rfl
theorem dC_get {cs : List Cx} {st : List B64} (h : st.length = cs.length) (b : UInt8) {i : Nat} (hi : i < cs.length) : (dC cs st b).getD i 0 = nxC cs[i] (st.getD i 0) b := by
  rw [List.getD_eq_getElem?_getD, List.getElem?_eq_getElem (by simp [dC, h]; omega)]
  simp only [dC, List.getElem_zipWith, Option.getD_some]
  rw [List.getD_eq_getElem?_getD, List.getElem?_eq_getElem (by omega)]; rfl
abbrev inB (row : List Nat) : ABlk := ⟨3, 1, row.map fun x : Nat => AV.int x⟩
theorem PuB_inB (row : List Nat) : ∀ e ∈ (inB row).es, ∀ c ∈ e.cells, Pu c := fun e he c hc => by
  obtain ⟨x, _, rfl⟩ := List.mem_map.1 he
  simp only [AV.cells, List.mem_singleton] at hc; subst hc; exact .base _
theorem made_ok (r : Rx) (hok : r.ok) (hwf : r.wf) (hcnt : r.cnt ≤ 600) (hset : (setsC (spA r []).2).length ≤ 900) (hcs : ∀ c ∈ (spA r []).2, c.b.length ≤ 900 ∧ c.f.length ≤ 900)
    (hfit : (spA r []).1.2 = true → (spA r []).1.1.fit (spA r []).2.length) : Fn Try.prog 111 [encX r] (encMd (madeR r)) := by
  have i1 := split_ok r hok hwf [] (by simp; omega)
  have hcl := spA_len r []
  unfold madeR
  generalize spA r [] = p at *
  obtain ⟨⟨a, b⟩, cs⟩ := p
  simp only at i1 hset hcs hfit hcl ⊢
  simp only [List.length_nil, Nat.zero_add] at hcl
  obtain ⟨o, s, l⟩ := r
  obtain ⟨oa, fa, la⟩ := a
  rw [encX_mk, encA_mk] at i1
  rw [encX_mk]
  refine Fn.intro' [(0, .agg [.int o, str s, .lst (l.map encX)])] 1 161 Try.func111 (by kernel_rfl) rfl rfl rfl rfl rfl ?_
  refine reA ?_
  refine zOut ?_
  refine reA ?_
  refine zOut ?_
  refine AWp.weaken (Wk.nilC (H2 := [boxX o s l, ⟨155, 1, [.own 2 0 0 0]⟩]) (E2 := [(1, .ptr 0 1 0 0), (4, .ptr 1 1 0 0)]) 168 1 ?_ ?_) ?_
  · exact ⟨.pu (PuB_box o s l), .one ⟨.nil rfl, trivial⟩, trivial⟩
  · exact ⟨.ptr, .ptr, trivial⟩
  refine reA ?_
  refine ARun.p1 rfl rfl (pl_callN (d' := .tup [.agg [.int oa, .int fa, .lst (la.map encA)], .bool b]) [1, 2] [cpT cs.length, cpB cs] i1 (by decide) ⟨⟨_, rfl, cpT_in (by decide) _⟩, ⟨_, rfl, .pu (PuB_cpB [])⟩, trivial⟩
      ⟨cpT_out (by simp [rb]) _, .pu (PuB_cpB cs), trivial⟩ rfl rfl rfl ⟨.pu (Pu_aggX _ _ _), .ptr (by decide), trivial⟩ (.pu (.tup fun c hc => by
        simp only [List.mem_cons, List.not_mem_nil, or_false] at hc
        rcases hc with rfl | rfl
        · exact Pu_aggA _ _ _
        · exact .base _))) ?_
  refine goB ?_
  cases b with
  | false =>
    refine ift_ ?_
    refine goB ?_
    exact Ret.data rfl rfl (.tup fun c hc => by
      simp only [List.mem_cons, List.not_mem_nil, or_false] at hc
      rcases hc with rfl | rfl <;> exact .base _)
  | true =>
  have hfit := hfit rfl
  refine iff_ ?_
  refine AWp.weaken (Wk.selB (H2 := [boxX o s l, boxL cs, akB oa fa la]) (E2 := [(4, .ptr 1 1 0 0), (5, .ptr 2 1 0 0)]) [0, 1, 3] (by decide) (fun b hb => absurd hb (Nat.not_lt_zero _)) ?_ ?_) ?_
  · exact ⟨⟨_, rfl, .pu (PuB_box o s l)⟩, ⟨_, rfl, .one ⟨.ownM (f := encCx) (l := cs) rfl rfl rfl Pu_cxs, trivial⟩⟩, ⟨_, rfl, .pu (PuB_ak oa fa la)⟩, trivial⟩
  · exact WkR.all ⟨.ptr rfl, .ptr rfl, trivial⟩
  rw [if_neg (by simp)]
  have i2 := groups_ok cs (by omega) hset
  refine AWp.skip (z1 ?_)
  refine reA ?_
  refine bldA (cs := (List.replicate 95 (0:Int)).map AV.int ++ [.base (.slice none 0 0), .base (.slice none 0 0)]) pl105 zero105 ?_
  refine ARun.p1 (v := .ptr 3 1 0 0) (H' := [boxX o s l, boxL cs, akB oa fa la, mcG (List.replicate 95 0)]) rfl rfl (pl_box rfl rfl) ?_
  refine rcA ?_
  refine zOut ?_
  unfold xsC
  generalize hK : keyB (setsC cs) = K at *
  refine reA ?_
  refine ARun.p1 rfl rfl (pl_callN (d' := .lst ((fsN K 95).map bu)) [3] [mcG (grpG K 95)] i2 (by decide) ⟨⟨_, rfl, .pu (PuB_mcG _)⟩, trivial⟩
      ⟨.pu (PuB_mcG _), trivial⟩ rfl rfl rfl ⟨.ptr rfl, .pu (Pu_cxL cs), trivial⟩ (.pu (.lst fun e he c hc => by
        obtain ⟨x, _, rfl⟩ := List.mem_map.1 he
        simp only [AV.cells, List.mem_singleton] at hc; subst hc; exact .base _))) ?_
  simp only [setL, List.set_cons_succ, List.set_cons_zero]
  rw [show (fsN K 95).map bu = (gsB K).map AV.u8 by rw [gsB, List.map_map]; rfl]
  have hgl : (gsB K).length ≤ 95 := by rw [gsB, List.length_map]; exact fsN_len K 95
  generalize gsB K = gs at *
  have hGl : (grpG K 95).length = 95 := grpG_len K (Nat.le_refl _)
  generalize grpG K 95 = G at *
  refine rcA ?_
  refine zOut ?_
  refine reA ?_
  refine ARun.p1 rfl rfl (pl_make (by simp +decide only [go_sem] <;> rfl) (by simp +decide only [go_sem] <;> rfl) Try.underlying163 el164 zero164 rfl (by omega) (by omega) (by omega) (by omega)) ?_
  rw [show (List.replicate ((cs.length : Int)).toNat (AV.base (.int .u64 0))) = (stv cs.length 0).map u6 by rw [stv_0]; rfl]
  refine goB ?_
  refine AWp.loop (J := fun j : Nat => j ≤ cs.length) (fun j => ⟨[(4, .ptr 1 1 0 0), (5, .ptr 2 1 0 0), (7, .ptr 3 1 0 0), (8, .lst (gs.map AV.u8)), (9, .own 4 cs.length 0 cs.length), (41, .int cs.length), (42, .int j)], [boxX o s l, boxL cs, akB oa fa la, mcG G, ⟨164, 1, (stv cs.length j).map u6⟩]⟩) (fun j => cs.length - j) 0 (Nat.zero_le _) .wf ?_
  intro j hj
  refine goB ?_
  refine ifA (fun hc => ?_) (fun hc => ?_)
  · simp at hc
    refine goB ?_
    refine ARun.q1 rfl rfl (ql_indexAddr_own (by simp +decide only [go_sem] <;> rfl) (by simp +decide only [go_sem] <;> rfl) Try.underlying163 (by rfl) (by simp [stv_len]) (by omega) (by omega) (by kernel_rfl)) ?_
    refine ARun.p1 rfl rfl (pl_store_own (l := stv cs.length j) (f := u6) (bt 63) (by simp +decide only [go_sem] <;> rfl) u6_63 rfl (stv_len _ _) (by rw [stv_len]; exact hc) sz164 rfl rfl) ?_
    rw [stv_set _ _ hc]
    refine goB ?_
    rw [wrap_succ (by omega)]
    exact ⟨j + 1, by omega, by omega, .wf⟩
  simp at hc
  obtain rfl : j = cs.length := by omega
  rw [stv_all]
  refine AWp.weaken (Wk.trimM (E2 := [(4, .ptr 1 1 0 0), (5, .ptr 2 1 0 0), (7, .ptr 3 1 0 0), (8, .lst (gs.map AV.u8)), (9, u6s (List.replicate cs.length (bt 63)))]) (H2 := [boxX o s l, boxL cs, akB oa fa la, mcG G]) 4 (Nat.zero_le _) rfl ?_ ?_) ?_
  · exact ⟨.ptr (by decide), .ptr (by decide), .ptr (by decide), .pu (Pu_u8L gs), .ownM (f := u6) (l := List.replicate cs.length (bt 63)) (by decide) rfl (by simp) Pu_u6s, trivial⟩
  · exact pubB (.cons (PuB_box o s l) (.cons (PuB_boxL cs) (.cons (PuB_ak oa fa la) (.cons (PuB_mcG G) .nil))))
  generalize hs0 : List.replicate cs.length (bt 63) = s0 at *
  have hs0l : s0.length = cs.length := by rw [← hs0]; simp
  refine AWp.exit ?_
  repeat (with_reducible apply thenQ_e)
  refine blkQ_e (thenQ_n ?_)
  refine zs ?_
  with_reducible apply zR
  · refine ⟨rfl, rfl, ?_⟩
    simp +decide only [go_sem, List.map]; rfl
  refine ARun.q1 rfl rfl (ql_fun (v := u6s s0) (by simp +decide only [go_sem] <;> rfl)) ?_
  refine ARun.p1 rfl rfl (pl_buildSlice (es := [u6s s0]) (by decide) Try.underlying165 sz163 (by kernel_rfl) (by decide) (by simp +decide only [go_sem] <;> rfl) (by simp +decide only [go_sem] <;> rfl) rfl) ?_
  refine goB ?_
  refine ARun.p1 rfl rfl (pl_makeMap stV AV.int) ?_
  refine rcA ?_
  refine callA (keyOf_ok s0 (by omega)) ?_
  refine ARun.p1 rfl rfl (pl_insert stV AV.int (m := []) (Ko s0) (0 : Int) (by simp +decide only [go_sem] <;> rfl) (by simp +decide only [go_sem] <;> rfl) (by simp +decide only [go_sem] <;> rfl) rfl Try.underlying167 Try.underlying9 KeyEnc.str) ?_
  refine rcA ?_
  refine zOut ?_
  refine reA ?_
  refine zOut ?_
  refine AWp.weaken (Wk.nilC (H2 := [boxX o s l, boxL cs, akB oa fa la, ⟨105, 97, [.agg (G.map AV.int ++ [.own 6 0 0 0, .base (.slice none 0 0)])]⟩, stB [s0], mpB (numM Ko [s0])]) (E2 := [(4, .ptr 1 1 0 0), (5, .ptr 2 1 0 0), (7, .ptr 3 1 0 0), (8, .lst (gs.map AV.u8)), (11, .own 4 1 0 1), (12, .mapv 5), (13, .int 0)]) 107 1 ?_ ?_) ?_
  · exact ⟨.pu (PuB_box o s l), .pu (PuB_boxL cs), .pu (PuB_ak oa fa la), .one (NilL.app (Pu_ints G) ⟨.nil rfl, .pu (.base _), trivial⟩), .pu (PuB_stB [s0]), .pu (PuB_mpB _), trivial⟩
  · exact ⟨.ptr, .ptr, .ptr, .pu (Pu_u8L gs), .own, .mv (.mapv rfl), .pu (.base _), trivial⟩
  refine AWp.weaken (Wk.nilC (H2 := [boxX o s l, boxL cs, akB oa fa la, ⟨105, 97, [.agg (G.map AV.int ++ [.own 6 0 0 0, .own 7 0 0 0])]⟩, stB [s0], mpB (numM Ko [s0]), rwB []]) (E2 := [(4, .ptr 1 1 0 0), (5, .ptr 2 1 0 0), (7, .ptr 3 1 0 0), (8, .lst (gs.map AV.u8)), (11, .own 4 1 0 1), (12, .mapv 5), (13, .int 0)]) 4 1 ?_ ?_) ?_
  · exact ⟨.pu (PuB_box o s l), .pu (PuB_boxL cs), .pu (PuB_ak oa fa la), .one (NilL.app (Pu_ints G) ⟨.own, .nil rfl, trivial⟩), .pu (PuB_stB [s0]), .pu (PuB_mpB _), .pu (PuB_rwB []), trivial⟩
  · exact ⟨.ptr, .ptr, .ptr, .pu (Pu_u8L gs), .own, .mv (.mapv rfl), .pu (.base _), trivial⟩
  refine AWp.block ?_
  generalize hX : xs (dC cs) gs s0 = X at *
  refine AWp.loop (J := fun k : Nat => k ≤ (X k).1.length ∧ (X k).1.length ≤ 20000 ∧ (X k).2.length = k)
    (fun k => ⟨[(4, .ptr 1 1 0 0), (5, .ptr 2 1 0 0), (7, .ptr 3 1 0 0), (8, .lst (gs.map AV.u8)), (11, .own 4 (X k).1.length 0 (X k).1.length), (12, .mapv 5), (13, .int k)], mdH o s l cs oa fa la G (X k).1 (X k).2 (((X k).1.take k).map fun s => hA (ansC cs s) (.mk oa fa la))⟩)
    (fun k => 20001 - k) 0 (by subst hX; exact ⟨Nat.zero_le _, by show (1 : Nat) ≤ 20000; omega, rfl⟩) (by subst hX; exact .wf) ?_
  rintro k ⟨hk1, hk2, hk3⟩
  refine goB ?_
  have hok := xs_ok (dC cs) gs s0 k
  have hlenX := xsC_len (gs := gs) hs0l k
  have hnx := fun (st : List B64) (h : (xs (dC cs) gs s0 k).1[k]? = some st) => xs_some h
  have hmono := xs_mono (dC cs) gs s0 (k + 1) (20000 - k)
  have hstop := fun h : (xs (dC cs) gs s0 k).1.length ≤ k => xs_stop h (20001 - k)
  rw [hX] at hok hlenX hnx hmono hstop
  refine ifA (fun hc => ?_) (fun hc => ?_)
  · simp at hc
    have hks : (X k).1[k]? = some (X k).1[k] := List.getElem?_eq_getElem hc
    have hnx := hnx _ hks
    have hsl := hlenX _ (List.getElem_mem hc)
    refine goB ?_
    generalize hall : (X k).1 = all at *
    generalize hrows : (X k).2 = rows at *
    generalize hst : all[k] = st at *
    generalize hac : (all.take k).map (fun s => hA (ansC cs s) (.mk oa fa la)) = acs at *
    have hal : acs.length = k := by rw [← hac]; simp; omega
    have hans : (ansC cs st).length = cs.length := by simp [ansC, hsl]
    refine AWp.weaken (Wk.nilC (H2 := mdH o s l cs oa fa la G all rows acs) (E2 := [(4, .ptr 1 1 0 0), (5, .ptr 2 1 0 0), (7, .ptr 3 1 0 0), (8, .lst (gs.map AV.u8)), (11, .own 4 all.length 0 all.length), (12, .mapv 5), (13, .int k), (14, .own 8 0 0 0), (61, .lst (cs.map encCx)), (62, .int cs.length), (63, .int 0)]) 4 1 (mdH_nil ..) ?_) ?_
    · exact ⟨.ptr, .ptr, .ptr, .pu (Pu_u8L gs), .own, .mv (.mapv rfl), .pu (.base _), .nil rfl, .pu (Pu_cxL cs), .pu (.base _), .pu (.base _), trivial⟩
    refine AWp.loop (J := fun j : Nat => j ≤ cs.length)
      (fun j => ⟨[(4, .ptr 1 1 0 0), (5, .ptr 2 1 0 0), (7, .ptr 3 1 0 0), (8, .lst (gs.map AV.u8)), (11, .own 4 all.length 0 all.length), (12, .mapv 5), (13, .int k), (14, .own 8 ((ansC cs st).take j).length 0 ((ansC cs st).take j).length), (61, .lst (cs.map encCx)), (62, .int cs.length), (63, .int j)], mdH o s l cs oa fa la G all rows acs ++ [acB ((ansC cs st).take j)]⟩)
      (fun j => cs.length - j) 0 (Nat.zero_le _) .wf ?_
    intro j hj
    simp only [mdH, List.cons_append, List.nil_append]
    refine goB ?_
    refine ifA (fun hc2 => ?_) (fun hc2 => ?_)
    · simp at hc2
      have hidx : (cs.map encCx)[j]? = some (.iptr (cxA cs[j]) 0) := by rw [List.getElem?_map, List.getElem?_eq_getElem hc2]; rfl
      have i3 := accepts_ok cs[j] (st.getD j 0)
      have hat : (ansC cs st).take (j + 1) = (ansC cs st).take j ++ [accC cs[j] (st.getD j 0)] := by
        rw [List.take_succ_eq_append_getElem (by rw [hans]; exact hc2)]
        simp only [ansC, List.getElem_zipWith, List.getD_eq_getElem?_getD]
        rw [List.getElem?_eq_getElem (by rw [hsl]; exact hc2)]; rfl
      have hatl : ((ansC cs st).take j).length ≤ 600 := by rw [List.length_take]; omega
      generalize (ansC cs st).take j = aj at *
      generalize cs[j] = c at *
      unfold encCx at i3
      refine goB ?_
      refine ARun.q1 rfl rfl (ql_indexAddr_lst rfl rfl Try.underlying155 (by omega) (e := .iptr (cxA c) 0) (by simpa using hidx) (by kernel_rfl)) ?_
      refine goB ?_
      rw [show nth 0 all (k : Int) = st from by rw [nth_eq hc]; exact hst]
      refine goB ?_
      rw [nthD6]
      refine callA (i3) ?_
      refine goB ?_
      refine ARun.p1 rfl rfl (pl_append (b := 8) (tot := aj.length) (es := [.bool (accC c (st.getD j 0))]) (by simp +decide only [go_sem] <;> rfl) (by simp +decide only [go_sem] <;> rfl) rfl (by simp) Try.underlying71 el4 rfl rfl (by simp) (fun e he => by rw [List.mem_singleton] at he; subst he; exact ⟨rfl, rfl⟩) (by simp; omega) (by simp; omega)) ?_
      rw [show aj.map AV.bool ++ [.bool (accC c (st.getD j 0))] = (aj ++ [accC c (st.getD j 0)]).map AV.bool by rw [List.map_append]; rfl]
      refine goB ?_
      rw [wrap_succ (by omega)]
      refine ⟨j + 1, hc2, by omega, ?_⟩
      simp only [hat, mdH, List.cons_append, List.nil_append, List.length_append, List.length_cons, List.length_nil]
      exact .wf
    simp at hc2
    obtain rfl : j = cs.length := by omega
    rw [List.take_of_length_le (by omega)]
    refine goB ?_
    have i4 := holds_ok (ansC cs st) (.mk oa fa la) (by rw [hans]; exact hfit)
    rw [encA_mk] at i4
    generalize han : ansC cs st = an at *
    generalize hhv : hA an (.mk oa fa la) = hv at *
    refine keF [4, 5, 7, 8, 11, 12, 13, 14] ?_
    with_reducible apply AWp.drawK (k := 10) [none, none, none, none, none, none, none, none, none, some 0] (fun i => match i with
      | 0 => [boxX o s l, boxL cs, akB oa fa la, mcM G rows.length acs.length, stB all, mpB (numM Ko all), rwB rows, acB acs, acB an]
      | _ => [boxX o s l, boxL cs, akB oa fa la, mcM G rows.length acs.length, stB all, mpB (numM Ko all), rwB rows, acB (acs ++ [hv]), acB an]) 1 follows
    · refine ⟨rfl, rfl, by kernel_rfl, by decide, ?_, ?_⟩
      · simp +decide only [go_sem, List.map, List.take]; rfl
      · simp +decide only [go_sem, List.map, List.drop]; rfl
    · kernel_rfl
    · rfl
    refine GRun.qf1 rfl rfl (by simp +decide only [go_sem] <;> rfl) (by simp +decide only [go_sem] <;> rfl) ?_
    refine GRun.qf1 rfl rfl (by simp +decide only [go_sem] <;> rfl) (by simp +decide only [go_sem] <;> rfl) ?_
    refine GRun.qf1 rfl rfl (by simp +decide only [go_sem] <;> rfl) (by simp +decide only [go_sem] <;> rfl) ?_
    refine GRun.qf1 (v := .ptr 3 1 0 96) rfl rfl (by simp +decide only [go_sem] <;> rfl) (by simp +decide only [go_sem] <;> rfl) ?_
    refine GRun.q1 (v := .own 7 acs.length 0 acs.length) rfl rfl (fun c _ => ql_ldA (nr := rows.length) (by simp +decide only [go_sem] <;> rfl) (by match c with | 0 => rfl | _ + 1 => rfl) hGl) ?_
    refine GRun.qf1 (v := .agg [.int oa, .int fa, .lst (la.map encA)]) rfl rfl (by simp +decide only [go_sem] <;> rfl) (by simp +decide only [go_sem] <;> rfl) ?_
    refine GRun.qf1 rfl rfl (by simp +decide only [go_sem] <;> rfl) (by simp +decide only [go_sem] <;> rfl) ?_
    refine GRun.q1 (v := .bool hv) rfl rfl (fun c _ => ql_callM (args := [.agg [.int oa, .int fa, .lst (la.map encA)], lB an]) rfl (by simp +decide only [go_sem] <;> rfl) (by simp +decide only [go_sem, List.map]; exact ⟨.pu (Pu_aggA _ _ _), .ownM (ty := 4) (sz := 1) (f := AV.bool) (l := an) (by match c with | 0 => rfl | _ + 1 => rfl) rfl (fun x _ c hc => by simp only [AV.cells, List.mem_singleton] at hc; subst hc; exact .base _), trivial⟩) (.base _) i4) ?_
    refine GRun.q1 (v := .lst [.bool hv]) rfl rfl (fun c _ => ql_buildSlice (by decide) Try.underlying71 sz4 (by kernel_rfl) (by decide) (by (simp +decide only [List.map, go_sem] <;> rfl)) (by (simp +decide only [List.map, go_sem] <;> rfl)) rfl) ?_
    refine GRun.p1 (v := .own 7 (acs.length + 1) 0 (acs.length + 1)) rfl rfl (fun ρ' h => ?_) ?_
    · have := pl_append (P := Try.prog) (ρ := ρ') (H := [boxX o s l, boxL cs, akB oa fa la, mcM G rows.length acs.length, stB all, mpB (numM Ko all), rwB rows, acB acs, acB an]) (b := 7) (tot := acs.length) (es := [.bool hv]) ((h (.tmp 85) (by simp [Op.operands, Call.operands])).trans (by simp +decide only [go_sem] <;> rfl)) ((h (.tmp 89) (by simp [Op.operands, Call.operands])).trans (by simp +decide only [go_sem] <;> rfl)) rfl (by simp) Try.underlying71 el4 rfl rfl (by simp) (fun e he => by rw [List.mem_singleton] at he; subst he; exact ⟨rfl, rfl⟩) (by simp; omega) (by simp; omega)
      simp only [acB, List.map_append, List.map_cons, List.map_nil]; exact this
    refine GRun.nil ?_
    refine rcA ?_
    refine ARun.p1 rfl rfl (pl_stA (na := acs.length) (na' := acs.length + 1) (by simp +decide only [go_sem] <;> rfl) (by simp +decide only [go_sem] <;> rfl) rfl hGl) ?_
    refine zOut ?_
    rw [show acs.length + 1 = (acs ++ [hv]).length by simp]
    refine AWp.weaken (Wk.tf (E2 := [(4, .ptr 1 1 0 0), (5, .ptr 2 1 0 0), (7, .ptr 3 1 0 0), (8, .lst (gs.map AV.u8)), (11, .own 4 all.length 0 all.length), (12, .mapv 5), (13, .int k)]) (H2 := mdH o s l cs oa fa la G all rows (acs ++ [hv])) 8 (mdH_pub (by omega) _ _ _ _ _ _ _ _ _ _ _ [] .nil)) ?_
    have hac2 : acs ++ [hv] = (all.take (k + 1)).map (fun s => hA (ansC cs s) (.mk oa fa la)) := by
      rw [List.take_succ_eq_append_getElem hc, List.map_append, hst, ← hac, ← hhv, ← han]; rfl
    generalize acs ++ [hv] = acs2 at *
    refine reA ?_
    refine zOut ?_
    refine goB ?_
    clear hac
    refine AWp.weaken (Wk.nilC (H2 := mdH o s l cs oa fa la G all rows acs2) (E2 := [(4, .ptr 1 1 0 0), (5, .ptr 2 1 0 0), (7, .ptr 3 1 0 0), (8, .lst (gs.map AV.u8)), (11, .own 4 all.length 0 all.length), (12, .mapv 5), (13, .int k), (17, .own 8 0 0 0), (93, .lst (gs.map AV.u8)), (94, .int gs.length), (95, .int 0)]) 3 1 (mdH_nil ..) ?_) ?_
    · exact ⟨.ptr, .ptr, .ptr, .pu (Pu_u8L gs), .own, .mv (.mapv rfl), .pu (.base _), .nil rfl, .pu (Pu_u8L gs), .pu (.base _), .pu (.base _), trivial⟩
    generalize hR : (fun j => rowX (dC cs st) (gs.take j) all []) = R
    have hRl : ∀ j, j ≤ gs.length → (R j).1.length ≤ all.length + 95 ∧ (R j).2.length = j := fun j hj => by
      have := rowX_len (dC cs st) all j (gs.take j) (by rw [List.length_take]; omega)
      rw [← hR]; simp only; omega
    have hRk : ∀ j, (R j).1[k]? = some st := fun j => by
      obtain ⟨m, hm⟩ := (rowX_ok (dC cs st) all (gs.take j).length (gs.take j) rfl).pre
      rw [← hR]; simp only
      rw [hm, List.getElem?_append_left (by omega)]; exact hks
    have hRs : ∀ j (h : j < gs.length), R (j + 1) = (addN (R j).1 (dC cs st gs[j]), (R j).2 ++ [ixN (R j).1 (dC cs st gs[j])]) := fun j h => by
      rw [← hR]; simp only
      rw [List.take_succ_eq_append_getElem h, rowX_snoc']
    refine AWp.loop (J := fun j : Nat => j ≤ gs.length)
      (fun j => ⟨[(4, .ptr 1 1 0 0), (5, .ptr 2 1 0 0), (7, .ptr 3 1 0 0), (8, .lst (gs.map AV.u8)), (11, .own 4 (R j).1.length 0 (R j).1.length), (12, .mapv 5), (13, .int k), (17, .own 8 (R j).2.length 0 (R j).2.length), (93, .lst (gs.map AV.u8)), (94, .int gs.length), (95, .int j)], mdH o s l cs oa fa la G (R j).1 rows acs2 ++ [inB (R j).2]⟩)
      (fun j => gs.length - j) 0 (Nat.zero_le _) (by subst hR; exact .wf) ?_
    intro j hj
    obtain ⟨hl1, hl2⟩ := hRl j hj
    have hlk := hRk j
    have hRs := hRs j
    generalize hR1 : (R j).1 = A at *
    generalize hR2 : (R j).2 = row at *
    simp only [mdH, List.cons_append, List.nil_append]
    refine goB ?_
    refine ifA (fun hc3 => ?_) (fun hc3 => ?_)
    · simp at hc3
      have hRs := hRs hc3
      have hbj : nth default gs (j : Int) = gs[j] := nth_eq hc3
      generalize gs[j] = b at *
      refine goB ?_
      rw [hbj]
      refine ARun.p1 rfl rfl (pl_make (by simp +decide only [go_sem] <;> rfl) (by simp +decide only [go_sem] <;> rfl) Try.underlying163 el164 zero164 rfl (by omega) (by omega) (by omega) (by omega)) ?_
      rw [show (List.replicate ((cs.length : Int)).toNat (AV.base (.int .u64 0))) = (mixv cs.length (dC cs st b) 0).map u6 by rw [mixv_0]; rfl]
      have hDl : (dC cs st b).length = cs.length := by simp [dC, hsl]
      have hDg := fun i (h : i < cs.length) => dC_get hsl b h
      have hDa := mixv_all cs.length (dC cs st b) hDl
      generalize dC cs st b = D at *
      refine goB ?_
      refine AWp.loop (J := fun i : Nat => i ≤ cs.length)
        (fun i => ⟨[(4, .ptr 1 1 0 0), (5, .ptr 2 1 0 0), (7, .ptr 3 1 0 0), (8, .lst (gs.map AV.u8)), (11, .own 4 A.length 0 A.length), (12, .mapv 5), (13, .int k), (17, .own 8 row.length 0 row.length), (19, AV.u8 b), (20, .own 9 cs.length 0 cs.length), (93, .lst (gs.map AV.u8)), (94, .int gs.length), (95, .int j), (102, .lst (cs.map encCx)), (103, .int cs.length), (104, .int i)], [boxX o s l, boxL cs, akB oa fa la, mcM G rows.length acs2.length, stB A, mpB (numM Ko A), rwB rows, acB acs2, inB row, ⟨164, 1, (mixv cs.length D i).map u6⟩]⟩)
        (fun i => cs.length - i) 0 (Nat.zero_le _) .wf ?_
      intro i hi
      refine goB ?_
      refine ifA (fun hc4 => ?_) (fun hc4 => ?_)
      · simp at hc4
        have hidx : (cs.map encCx)[i]? = some (.iptr (cxA cs[i]) 0) := by rw [List.getElem?_map, List.getElem?_eq_getElem hc4]; rfl
        have hDg := hDg i hc4
        have hci := hcs cs[i] (List.getElem_mem hc4)
        have i5 := next_ok cs[i] hci.1 hci.2 (st.getD i 0) b
        rw [← hDg] at i5
        generalize cs[i] = c at *
        unfold encCx at i5
        have hnA : nth 0 A (k : Int) = st := by
          have h1 : k < A.length := (List.getElem?_eq_some_iff.1 hlk).1
          rw [nth_eq h1]; exact (List.getElem?_eq_some_iff.1 hlk).2
        refine goB ?_
        refine ARun.q1 rfl rfl (ql_indexAddr_lst rfl rfl Try.underlying155 (by omega) (e := .iptr (cxA c) 0) (by simpa using hidx) (by kernel_rfl)) ?_
        have hkA : k < A.length := (List.getElem?_eq_some_iff.1 hlk).1
        refine goB ?_
        rw [hnA]
        refine goB ?_
        rw [nthD6]
        refine callA (i5) ?_
        refine ARun.q1 rfl rfl (ql_indexAddr_own (by simp +decide only [go_sem] <;> rfl) (by simp +decide only [go_sem] <;> rfl) Try.underlying163 (by rfl) (by simp [mixv_len]) (by omega) (by omega) (by kernel_rfl)) ?_
        refine ARun.p1 rfl rfl (pl_store_own (l := mixv cs.length D i) (f := u6) (D.getD i 0) (by simp +decide only [go_sem] <;> rfl) (by simp +decide only [go_sem] <;> rfl) rfl (mixv_len _ _ _) (by rw [mixv_len]; exact hc4) sz164 rfl rfl) ?_
        rw [mixv_set _ _ _ hc4]
        refine goB ?_
        rw [wrap_succ (by omega)]
        exact ⟨i + 1, hc4, by omega, .wf⟩
      simp at hc4
      obtain rfl : i = cs.length := by omega
      rw [hDa]
      refine AWp.weaken (Wk.trimM (E2 := [(4, .ptr 1 1 0 0), (5, .ptr 2 1 0 0), (7, .ptr 3 1 0 0), (8, .lst (gs.map AV.u8)), (11, .own 4 A.length 0 A.length), (12, .mapv 5), (13, .int k), (17, .own 8 row.length 0 row.length), (20, u6s D), (93, .lst (gs.map AV.u8)), (94, .int gs.length), (95, .int j)]) (H2 := mdH o s l cs oa fa la G A rows acs2 ++ [inB row]) 9 (Nat.zero_le _) rfl ?_ (mdH_pub (by omega) _ _ _ _ _ _ _ _ _ _ _ [inB row] (.cons (PuB_inB row) .nil))) ?_
      · exact ⟨.ptr (by decide), .ptr (by decide), .ptr (by decide), .pu (Pu_u8L gs), .own (by decide), PubR.mapv (pre_lt (by decide)), .pu (.base _), .own (by decide), .ownM (f := u6) (l := D) (by decide) rfl hDl Pu_u6s, .pu (Pu_u8L gs), .pu (.base _), .pu (.base _), trivial⟩
      simp only [mdH, List.cons_append, List.nil_append]
      refine AWp.exit ?_
      repeat (with_reducible apply thenQ_e)
      refine blkQ_e (thenQ_n ?_)
      have hget : (D ∈ A → getM (numM Ko A) (Ko D) = some ((ixN A D : Nat) : Int)) ∧ (¬ D ∈ A → getM (numM Ko A) (Ko D) = none) := ⟨fun h => by rw [numM_get Ko Ko_inj, if_pos h], fun h => by rw [numM_get Ko Ko_inj, if_neg h]⟩
      refine reA ?_
      refine callA (keyOf_ok D (by omega)) ?_
      refine ARun.q1 rfl rfl (ql_lookupOk (enc := stV) (f := AV.int) (m := numM Ko A) (Ko D) (by simp +decide only [go_sem] <;> rfl) (by simp +decide only [go_sem] <;> rfl) rfl Try.underlying167 Try.underlying9 KeyEnc.str zero3) ?_
      by_cases hm : D ∈ A
      · rw [hget.1 hm]
        rw [addN_old hm] at hRs
        refine goB ?_
        refine iff_ ?_
        refine goB ?_
        refine ARun.p1 rfl rfl (pl_append (b := 8) (tot := row.length) (es := [.int (ixN A D : Nat)]) (by simp +decide only [go_sem] <;> rfl) (by simp +decide only [go_sem] <;> rfl) rfl (by simp) Try.underlying107 el3 rfl rfl (by simp) (fun e he => by rw [List.mem_singleton] at he; subst he; exact ⟨rfl, rfl⟩) (by simp; omega) (by simp; omega)) ?_
        rw [show (row.map fun x : Nat => AV.int x) ++ [.int (ixN A D : Nat)] = (row ++ [ixN A D]).map (fun x : Nat => AV.int x) by rw [List.map_append]; rfl]
        refine goB ?_
        rw [wrap_succ (by omega)]
        refine ⟨j + 1, hc3, by omega, ?_⟩
        simp only [hRs, mdH, List.cons_append, List.nil_append, List.length_append, List.length_cons, List.length_nil]
        exact .wf
      · rw [hget.2 hm]
        rw [addN_new hm, ixN_new hm] at hRs
        refine goB ?_
        refine ift_ ?_
        refine goB ?_
        refine callA (keyOf_ok D (by omega)) ?_
        refine goB ?_
        refine ARun.p1 rfl rfl (pl_mapUpdate stV AV.int (m := numM Ko A) (Ko D) (A.length : Int) (by simp +decide only [go_sem] <;> rfl) (by simp +decide only [go_sem] <;> rfl) (by simp +decide only [go_sem] <;> rfl) rfl Try.underlying167 Try.underlying9 KeyEnc.str) ?_
        rw [numM_new Ko Ko_inj hm]
        refine goB ?_
        refine ARun.p1 rfl rfl (pl_append (b := 4) (tot := A.length) (es := [u6s D]) (by simp +decide only [go_sem] <;> rfl) (by simp +decide only [go_sem] <;> rfl) rfl (by simp) Try.underlying165 el163 rfl rfl (by simp) (fun e he => by rw [List.mem_singleton] at he; subst he; exact ⟨rfl, rfl⟩) (by simp; omega) (by simp; omega)) ?_
        rw [show A.map u6s ++ [u6s D] = (A ++ [D]).map u6s by rw [List.map_append]; rfl]
        refine goB ?_
        refine ARun.p1 rfl rfl (pl_append (b := 8) (tot := row.length) (es := [.int (A.length : Nat)]) (by simp +decide only [go_sem] <;> rfl) (by simp +decide only [go_sem] <;> rfl) rfl (by simp) Try.underlying107 el3 rfl rfl (by simp) (fun e he => by rw [List.mem_singleton] at he; subst he; exact ⟨rfl, rfl⟩) (by simp; omega) (by simp; omega)) ?_
        rw [show (row.map fun x : Nat => AV.int x) ++ [.int (A.length : Nat)] = (row ++ [A.length]).map (fun x : Nat => AV.int x) by rw [List.map_append]; rfl]
        refine goB ?_
        rw [wrap_succ (by omega)]
        refine ⟨j + 1, hc3, by omega, ?_⟩
        simp only [hRs, mdH, List.cons_append, List.nil_append, List.length_append, List.length_cons, List.length_nil]
        exact .wf
    · simp at hc3
      obtain rfl : j = gs.length := by omega
      have hXk : X (k + 1) = (A, rows ++ [row]) := by rw [hnx, ← hR1, ← hR2, ← hR]; simp [List.take_length]
      refine AWp.weaken (Wk.trimM (E2 := [(4, .ptr 1 1 0 0), (5, .ptr 2 1 0 0), (7, .ptr 3 1 0 0), (8, .lst (gs.map AV.u8)), (11, .own 4 A.length 0 A.length), (12, .mapv 5), (13, .int k), (17, nL row)]) (H2 := mdH o s l cs oa fa la G A rows acs2) 8 (Nat.zero_le _) rfl ?_ (mdH_pub (by omega) _ _ _ _ _ _ _ _ _ _ _ [] .nil)) ?_
      · exact ⟨.ptr (by decide), .ptr (by decide), .ptr (by decide), .pu (Pu_u8L gs), .own (by decide), PubR.mapv (pre_lt (by decide)), .pu (.base _), .ownM (f := fun x : Nat => AV.int x) (l := row) (by decide) rfl rfl (fun x _ c hc => by simp only [AV.cells, List.mem_singleton] at hc; subst hc; exact .base _), trivial⟩
      simp only [mdH, List.cons_append, List.nil_append]
      refine AWp.exit ?_
      repeat (with_reducible apply thenQ_e)
      refine blkQ_e (thenQ_n ?_)
      refine reA ?_
      rw [(mcM_95 hGl (.own 6 rows.length 0 rows.length) (.own 7 acs2.length 0 acs2.length)).1]
      refine rcA ?_
      refine ARun.p1 rfl rfl (pl_append (b := 6) (tot := rows.length) (es := [nL row]) (by simp +decide only [go_sem] <;> rfl) (by simp +decide only [go_sem] <;> rfl) rfl (by simp) Try.underlying103 el107 rfl rfl (by simp) (fun e he => by rw [List.mem_singleton] at he; subst he; exact ⟨rfl, rfl⟩) (by simp; omega) (by simp; omega)) ?_
      rw [show rows.map nL ++ [nL row] = (rows ++ [row]).map nL by rw [List.map_append]; rfl]
      refine rcA ?_
      refine ARun.p1 rfl rfl (pl_stN (nr := rows.length) (nr' := rows.length + 1) (by simp +decide only [go_sem] <;> rfl) (by simp +decide only [go_sem] <;> rfl) rfl hGl) ?_
      refine zOut ?_
      refine goB ?_
      refine ifA (fun hc5 => ?_) (fun hc5 => ?_)
      · simp at hc5
        have h5 : ¬ (X 20001).1.length ≤ 20000 := by
          rw [hXk, show k + 1 + (20000 - k) = 20001 by omega] at hmono
          simp only at hmono
          omega
        rw [if_neg h5]
        refine goB ?_
        exact Ret.data rfl rfl (.tup fun c hc => by
          simp only [List.mem_cons, List.not_mem_nil, or_false] at hc
          rcases hc with rfl | rfl <;> exact .base _)
      simp at hc5
      refine goB ?_
      rw [wrap_succ (by omega)]
      have hkA : k < A.length := (List.getElem?_eq_some_iff.1 hlk).1
      refine ⟨k + 1, ⟨by rw [hXk]; simp only; omega, by rw [hXk]; simp only; omega, by rw [hXk]; simp only [List.length_append, List.length_cons, List.length_nil]; omega⟩, by omega, ?_⟩
      have hac3 : acs2 = (A.take (k + 1)).map (fun s => hA (ansC cs s) (.mk oa fa la)) := by
        obtain ⟨m, hm⟩ := (rowX_ok (dC cs st) all (gs.take gs.length).length (gs.take gs.length) rfl).pre
        rw [hac2, ← hR1, ← hR]; simp only
        rw [hm, List.take_append_of_le_length (by omega)]
      simp only [hXk, mdH, ← hac3, List.length_append, List.length_cons, List.length_nil]
      exact .wf
  · simp at hc
    have hXe : X 20001 = X k := by
      rw [← hstop hc]; congr 1; omega
    rw [hXe, if_pos hk2]
    have hac4 : (X k).1.take k = (X k).1 := List.take_of_length_le hc
    rw [hac4]
    refine goB ?_
    generalize (X k).1 = all at *
    generalize (X k).2 = rows at *
    generalize all.map (fun s => hA (ansC cs s) (Ask.mk oa fa la)) = acs
    exact Ret.pub (vs := [.ptr 3 1 0 0, .bool true]) (by kernel_rfl) (PubR.tup' (show PubRL _ _ [_, _] [_, _] from ⟨PubR.iptr (d := mkA G rows acs) (pre_ge (Nat.zero_le _)) rfl rfl rfl (PubRL.app (Pu_ints G) (show PubRL _ _ [_, _] [_, _] from ⟨.ownM (f := nL) (l := rows) (pre_ge (Nat.zero_le _)) rfl rfl (fun x _ c hc => by simp only [AV.cells, List.mem_singleton] at hc; subst hc; exact Pu_nL x), .ownM (f := AV.bool) (l := acs) (pre_ge (Nat.zero_le _)) rfl rfl (Pu_bools acs), trivial⟩)), .pu (.base _), trivial⟩))
end Go.Ab
