/- Part of the proof. -/
import Derived.Test.YtjfahhbobiiphaaYO
import Derived.Test.YtjfahhbobiiphaaYK
import Derived.Test.YtjfahhbobiiphaaAbL
set_option linter.unusedSimpArgs false
set_option linter.unusedVariables false
set_option maxHeartbeats 4000000
namespace Go.Ab
open Go Go.Ab Go.Proofs Go.Ab.Ty

abbrev iN (x : Nat) : AV := AV.int x
theorem ql_mA {H : List ABlk} {ρ : Operand → AV} {x : Operand} {G : List Int} {rows : List (List Nat)} {acs : List Bool} (hx : ρ x = .iptr (mkA G rows acs) 96) (hG : G.length = 95) : QL Try.prog H ρ (.load 71 x) (lB acs) := by
  refine ql_fun1 ?_
  have h := (mcM_95 hG (.lst (rows.map nL)) (lB acs)).2
  simp only [qfun, hx, agg71, sz71, ldE, AV.cells, mkA, h]
theorem u8_ofN (c : Nat) : IntKind.wrap .u8 (c : Int) = ((UInt8.ofNat c).toNat : Int) := by
  rw [UInt8.toNat_ofNat']
  simp [IntKind.wrap, IntKind.signed, IntKind.bits]
attribute [go_sem] u8_ofN mixN_len
theorem mixN_0 (n : Nat) (D : List Nat) : (mixN n D 0).map iN = List.replicate n (.base (.int .i64 0)) := by
  refine List.ext_getElem (by simp [mixN]) fun i h1 h2 => ?_
  simp [mixN]
abbrev inB' (l : List Nat) : ABlk := ⟨3, 1, l.map iN⟩
theorem nth_at {acs : List Bool} {k : Nat} (h : k < acs.length) (d : Bool) : nth d acs (k : Int) = acR acs k := by
  rw [nth_eq h]; unfold acR; rw [List.getD_eq_getElem?_getD, List.getElem?_eq_getElem h]; rfl
@[simp] theorem Pu_mk (G : List Int) (rows : List (List Nat)) (acs : List Bool) : Pu (.iptr (mkA G rows acs) 0) := .iptr fun c hc => by
  simp only [mkA, AV.cells, List.mem_append, List.mem_cons, List.not_mem_nil, or_false] at hc
  rcases hc with hc | rfl | rfl
  · exact Pu_ints G c hc
  · exact .lst fun e he c hc => by
      obtain ⟨x, _, rfl⟩ := List.mem_map.1 he
      simp only [AV.cells, List.mem_singleton] at hc; subst hc; exact Pu_nL x
  · exact .lst fun e he c hc => by
      obtain ⟨x, _, rfl⟩ := List.mem_map.1 he
      exact Pu_bools acs x ‹_› c hc
abbrev Kq (l : List Nat) : ByteArray := bsL (kyB l)
abbrev byB (l : List UInt8) : ABlk := ⟨5, 1, l.map AV.u8⟩
theorem Kq_inj {a b : List Nat} (ha : ∀ x ∈ a, x < 256) (hb : ∀ x ∈ b, x < 256) (h : Kq a = Kq b) : a = b := kyB_inj ha hb (by have := congrArg (fun s : ByteArray => s.data.toList) h; simpa using this)
theorem nthN {l : List Nat} {k : Nat} (h : k < l.length) : nth default l (k : Int) = l.getD k 0 := by
  rw [nth_eq h, List.getD_eq_getElem?_getD, List.getElem?_eq_getElem h]; rfl
theorem Pu_rowsN (rows : List (List Nat)) : Pu (.lst (rows.map nL)) := .lst fun e he c hc => by
  obtain ⟨x, _, rfl⟩ := List.mem_map.1 he
  simp only [AV.cells, List.mem_singleton] at hc; subst hc; exact Pu_nL x
theorem ql_bytesStrD {H : List ABlk} {ρ : Operand → AV} {t d e : TypeId} {x : Operand} {l : List UInt8} (hx : ρ x = .lst (l.map AV.u8)) (hs : Try.prog.underlying t = some (.slice e)) (he : Try.prog.underlying e = some (.int .u8)) (hd : Try.prog.underlying d = some .string) :
    QL Try.prog H ρ (.convert t d x) (.base (stV (bsL l))) := by
  have e1 : (l.map fun c : UInt8 => ((c.toNat : Nat) : Int)).map (fun n => AV.base (.int .u8 n)) = l.map AV.u8 := by rw [List.map_map]; rfl
  have e2 : (l.map fun c : UInt8 => ((c.toNat : Nat) : Int)).map (fun n => UInt8.ofNat n.toNat) = l := by
    rw [List.map_map]
    conv => rhs; rw [← List.map_id l]
    exact List.map_congr_left fun c _ => by simp
  have := ql_bytesStrL (P := Try.prog) (H := H) (ρ := ρ) (t := t) (d := d) (e := e) (x := x) (l := l.map fun c : UInt8 => ((c.toNat : Nat) : Int)) hx (by rw [e1]; exact .pu (Pu_u8L l)) hs he hd
  rw [e2] at this
  exact this
abbrev nilC : AV := .base (.slice none 0 0)
theorem zero105' : zeroA Try.prog 105 = some (.agg (List.replicate 95 (AV.int 0) ++ [nilC, nilC])) := zero105.trans rfl
theorem stE_G {l cs : List AV} (h1 : l.length = 95) (h2 : cs.length = 97) : stE (.agg cs) 0 l = some (.agg (l ++ cs.drop 95)) := by
  match l, h1 with
  | a :: b :: t, h1 =>
    simp only [stE]
    rw [if_pos (by omega), if_neg (by omega), List.take_zero, Nat.zero_add, h1]
    rfl
theorem fill105 {G : List Int} (hG : G.length = 95) : fillA [(0, 95), (95, 1), (96, 1)] (List.replicate 95 (AV.int 0) ++ [nilC, nilC]) [(0, .agg (G.map AV.int))] = some (G.map AV.int ++ [nilC, nilC]) := by
  have h1 : (G.map AV.int).all isOne = true := List.all_eq_true.2 fun x hx => by
    obtain ⟨y, _, rfl⟩ := List.mem_map.1 hx; rfl
  have h2 := stE_G (l := G.map AV.int) (cs := List.replicate 95 (AV.int 0) ++ [nilC, nilC]) (by simpa using hG) (by simp)
  simp only [fillA, List.getElem?_cons_zero, AV.cells, okCells, List.length_map, hG, h1, and_self, if_true, h2]
  rw [List.drop_append_of_le_length (by simp)]
  simp
theorem ld102 {G : List Int} (hG : G.length = 95) (a b : AV) : (if 95 ≤ (G.map AV.int ++ [a, b]).length then some (AV.agg ((G.map AV.int ++ [a, b]).take 95)) else none) = some (.agg (G.map AV.int)) := by
  rw [if_pos (by simp [hG]), List.take_append_of_le_length (by simp [hG]), List.take_of_length_le (by simp [hG])]
abbrev mcQ (G : List Int) (a b : AV) : ABlk := ⟨105, 97, [.agg (G.map AV.int ++ [a, b])]⟩
theorem ql_ldQ1 {H : List ABlk} {ρ : Operand → AV} {x : Operand} {G : List Int} {a b : AV} {i : Nat} (hx : ρ x = .ptr i 1 0 95) (hb : H[i]? = some (mcQ G a b)) (hG : G.length = 95) : QL Try.prog H ρ (.load 103 x) a := by
  refine ql_fun1 ?_
  have h := (mcM_95 hG a b).1
  simp only [qfun, hx, hb, List.length_cons, List.length_nil, Nat.zero_add, if_true, List.getElem?_cons_zero, agg103, sz103, ldE, AV.cells, h]
theorem ql_ldQ2 {H : List ABlk} {ρ : Operand → AV} {x : Operand} {G : List Int} {a b : AV} {i : Nat} (hx : ρ x = .ptr i 1 0 96) (hb : H[i]? = some (mcQ G a b)) (hG : G.length = 95) : QL Try.prog H ρ (.load 71 x) b := by
  refine ql_fun1 ?_
  have h := (mcM_95 hG a b).2
  simp only [qfun, hx, hb, List.length_cons, List.length_nil, Nat.zero_add, if_true, List.getElem?_cons_zero, agg71, sz71, ldE, AV.cells, h]
theorem pl_stQ1 {H : List ABlk} {ρ : Operand → AV} {x y : Operand} {G : List Int} {a b : AV} {i k n m : Nat} (hx : ρ x = .ptr i 1 0 95) (hy : ρ y = .own k n 0 m) (hb : H[i]? = some (mcQ G a b)) (hG : G.length = 95) : PL Try.prog H ρ (.store 103 x y) .bad (H.set i (mcQ G (.own k n 0 m) b)) := by
  refine pl_store (b := i) (tot := 1) (i := 0) (off := 95) (blk := mcQ G a b) (v := .own k n 0 m) hx hy hb rfl rfl sz103 rfl ?_
  simp only [stE, AV.cells, List.length_append, List.length_map, List.length_cons, List.length_nil, hG]
  rw [if_pos (by omega), List.set_append_right _ _ (by simp [hG])]
  simp [hG]
theorem pl_stQ2 {H : List ABlk} {ρ : Operand → AV} {x y : Operand} {G : List Int} {a b : AV} {i k n m : Nat} (hx : ρ x = .ptr i 1 0 96) (hy : ρ y = .own k n 0 m) (hb : H[i]? = some (mcQ G a b)) (hG : G.length = 95) : PL Try.prog H ρ (.store 71 x y) .bad (H.set i (mcQ G a (.own k n 0 m))) := by
  refine pl_store (b := i) (tot := 1) (i := 0) (off := 96) (blk := mcQ G a b) (v := .own k n 0 m) hx hy hb rfl rfl sz71 rfl ?_
  simp only [stE, AV.cells, List.length_append, List.length_map, List.length_cons, List.length_nil, hG]
  rw [if_pos (by omega), List.set_append_right _ _ (by simp [hG])]
  simp [hG]
theorem pl_boxQ {H : List ABlk} {ρ : Operand → AV} {x : Operand} {G : List Int} (hG : G.length = 95) (hx : ρ x = .agg (G.map AV.int ++ [nilC, nilC])) : PL Try.prog H ρ (.box 105 x) (.ptr H.length 1 0 0) (H ++ [mcQ G nilC nilC]) := by
  have h1 : (G.map AV.int ++ [nilC, nilC]).all isOne = true := List.all_eq_true.2 fun x hx => by
    rcases List.mem_append.1 hx with hx | hx
    · obtain ⟨y, _, rfl⟩ := List.mem_map.1 hx; rfl
    · simp only [List.mem_cons, List.not_mem_nil, or_false] at hx
      rcases hx with rfl | rfl <;> rfl
  have h := pl_box (P := Try.prog) (H := H) (ρ := ρ) (el := 105) (x := x) (v := .agg (G.map AV.int ++ [nilC, nilC])) hx h1
  rw [show (AV.agg (G.map AV.int ++ [nilC, nilC])).cells.length = 97 by simp [AV.cells, hG]] at h
  exact h
theorem mcH_pub {H : List ABlk} {k : Nat} (hk : 3 ≤ k) (G : List Int) (ra : List (List Nat)) (aa : List Bool) : ∀ blk ∈ [mcQ G (.own 1 ra.length 0 ra.length) (.own 2 aa.length 0 aa.length), rwB ra, acB aa], ∀ e ∈ blk.es, ∀ x ∈ e.cells, Pub H k x x := by
  intro blk hb e he x hx
  simp only [List.mem_cons, List.not_mem_nil, or_false] at hb
  rcases hb with rfl | rfl | rfl
  · rw [List.mem_singleton] at he; subst he
    simp only [AV.cells, List.mem_append, List.mem_cons, List.not_mem_nil, or_false] at hx
    rcases hx with hx | rfl | rfl
    · exact .pu (Pu_ints G x hx)
    · exact .own (by omega)
    · exact .own (by omega)
  · exact .pu (PuB_rwB ra e he x hx)
  · exact .pu (PuB_acB aa e he x hx)
theorem least_ok (G : List Int) (rows : List (List Nat)) (acs : List Bool) (hG : G.length = 95) (hp : 0 < rows.length) (hn : rows.length ≤ 20000) (hal : acs.length = rows.length) (hw : ∀ r ∈ rows, r.length ≤ 95) (hlt : ∀ r ∈ rows, ∀ x ∈ r, x < rows.length) :
    Fn Try.prog 112 [encMk (G, rows, acs)] (encMd (leastR (G, rows, acs))) := by
  unfold leastR
  simp only [encMk]
  refine Fn.intro' [(0, .iptr (mkA G rows acs) 0)] 1 184 Try.func112 (by kernel_rfl) rfl rfl rfl rfl rfl ?_
  have hcl0 := @cl0A_get acs
  have hcl0l := cl0A_len acs
  have hsm := clR_small (rows := rows) acs hal
  have h95 := (mcM_95 hG (.lst (rows.map nL)) (lB acs)).1
  have h96 := (mcM_95 hG (.lst (rows.map nL)) (lB acs)).2
  have hacF := fun i c h hc => acF_at (rows := rows) (acs := acs) (i := i) (c := c) hal h hc
  generalize cl0A acs = cl0 at *
  refine goB ?_
  rw [h95]
  refine rcA ?_
  refine ARun.p1 rfl rfl (pl_make (by simp +decide only [go_sem] <;> rfl) (by simp +decide only [go_sem] <;> rfl) Try.underlying107 el3 zero3 rfl (by omega) (by omega) (by omega) (by omega)) ?_
  rw [show (List.replicate ((rows.length : Int)).toNat (AV.base (.int .i64 0))) = (mixN rows.length cl0 0).map iN by rw [mixN_0]; simp]
  refine goB ?_
  rw [h96]
  refine rcA ?_
  refine zOut ?_
  have hml : (acs.map AV.bool).length = acs.length := List.length_map _
  refine AWp.block ?_
  refine AWp.loop (J := fun j : Nat => j ≤ rows.length) (fun j => ⟨[(0, .iptr (mkA G rows acs) 0), (4, .own 0 rows.length 0 rows.length), (32, lB acs), (33, .int acs.length), (34, .int j)], [inB' (mixN rows.length cl0 j)]⟩) (fun j => rows.length - j) 0 (Nat.zero_le _) (by rw [← hml]; exact .wf) ?_
  intro j hj
  refine goB ?_
  refine ifA (fun hc => ?_) (fun hc => ?_)
  · simp at hc
    have hcg := hcl0 hc
    refine goB ?_
    rw [h96]
    refine rcA ?_
    refine zOut ?_
    simp only [nth_at hc, show nth default acs 0 = acR acs 0 from nth_at (k := 0) (by omega) default]
    have hl0 : cl0.getD j 0 ≤ 1 := by rw [hcg]; split <;> omega
    by_cases h0 : acR acs j = acR acs 0
    · rw [if_pos h0] at hcg
      rw [show (!decide (acR acs j = acR acs 0)) = false by simp [h0]]
      refine iff_ ?_
      refine goB ?_
      rw [mixN_skip _ _ _ hcg, wrap_succ (by omega)]
      exact ⟨j + 1, by omega, by omega, .wf⟩
    · rw [if_neg h0] at hcg
      rw [show (!decide (acR acs j = acR acs 0)) = true by simp [h0]]
      refine ift_ ?_
      refine goB ?_
      refine ARun.q1 rfl rfl (ql_indexAddr_own (by simp +decide only [go_sem] <;> rfl) (by simp +decide only [go_sem] <;> rfl) Try.underlying107 (by rfl) (by simp [mixN_len]) (by omega) (by omega) (by kernel_rfl)) ?_
      refine ARun.p1 rfl rfl (pl_store_own (l := mixN rows.length cl0 j) (f := iN) (cl0.getD j 0) (by simp +decide only [go_sem] <;> rfl) (by rw [hcg]; rfl) rfl (mixN_len _ _ _) (by rw [mixN_len]; omega) sz3 rfl rfl) ?_
      rw [mixN_set _ _ _ (by omega)]
      refine goB ?_
      rw [wrap_succ (by omega)]
      exact ⟨j + 1, by omega, by omega, .wf⟩
  simp at hc
  obtain rfl : j = rows.length := by omega
  rw [mixN_all _ _ (by omega)]
  refine AWp.weaken (Wk.trimM (E2 := [(0, .iptr (mkA G rows acs) 0), (4, nL cl0)]) (H2 := []) 0 (Nat.zero_le _) rfl ?_ (by simp [PuB_inB])) ?_
  · exact ⟨.pu (Pu_mk G rows acs), .ownM (f := iN) (l := cl0) (by decide) rfl (by omega) (fun x _ c hc => by simp only [AV.cells, List.mem_singleton] at hc; subst hc; exact .base _), trivial⟩
  refine AWp.exit ?_
  repeat (with_reducible apply thenQ_e)
  refine blkQ_e (thenQ_n ?_)
  refine goB ?_
  refine AWp.loop (J := fun k : Nat => k ≤ ctR rows cl0 k ∧ ctR rows cl0 k ≤ 200) (fun k => ⟨[(0, .iptr (mkA G rows acs) 0), (4, nL (clR rows cl0 k)), (7, .int (ctR rows cl0 k))], []⟩) (fun k => 201 - k) 0 ⟨Nat.zero_le _, Nat.zero_le _⟩ .wf ?_
  rintro k ⟨hk1, hk2⟩
  have hsm := hsm k hk2
  have hcll : (clR rows cl0 k).length = rows.length := clR_len (by omega) k
  have hctk : ctR rows cl0 (k + 1) = (numL rows (clR rows cl0 k) rows.length).length := rfl
  have hctk2 : cntR rows cl0 k = (numL rows (clR rows cl0 k) rows.length).length := rfl
  have hclk : clR rows cl0 (k + 1) = refL rows (clR rows cl0 k) := rfl
  generalize hcl : clR rows cl0 k = cl at *
  generalize hct : ctR rows cl0 k = ct at *
  refine goB ?_
  refine ARun.p1 rfl rfl (pl_makeMap stV AV.int) ?_
  refine goB ?_
  refine ARun.p1 rfl rfl (pl_make (by simp +decide only [go_sem] <;> rfl) (by simp +decide only [go_sem] <;> rfl) Try.underlying107 el3 zero3 rfl (by omega) (by omega) (by omega) (by omega)) ?_
  rw [show (List.replicate ((cl.length : Int)).toNat (AV.base (.int .i64 0))) = (mixN rows.length (refL rows cl) 0).map iN by rw [mixN_0]; simp [hcll]]
  refine goB ?_
  rw [h95]
  refine rcA ?_
  refine zOut ?_
  refine AWp.block ?_
  have hmr : (rows.map nL).length = rows.length := List.length_map _
  refine AWp.loop (J := fun i : Nat => i ≤ rows.length ∧ (numL rows cl i).length ≤ 200) (fun i => ⟨[(0, .iptr (mkA G rows acs) 0), (4, nL cl), (7, .int ct), (8, .mapv 0), (9, .own 1 cl.length 0 cl.length), (58, .lst (rows.map nL)), (59, .int rows.length), (60, .int i)], [mpB (numM Kq (numL rows cl i)), inB' (mixN rows.length (refL rows cl) i)]⟩) (fun i => rows.length - i) 0 ⟨Nat.zero_le _, Nat.zero_le _⟩ (by rw [← hmr]; exact .wf) ?_
  rintro i ⟨hi, hi2⟩
  have hix := fun h => refL_ix (rows := rows) (cl := cl) (i := i) h
  have hns := numL_succ rows cl i
  have hsk := keyL_small (rows := rows) hsm i
  have hsn := numL_small (rows := rows) hsm (i := i)
  generalize hA : numL rows cl i = A at *
  refine goB ?_
  refine ifA (fun hc => ?_) (fun hc => ?_)
  · simp at hc
    have hrl := hw _ (List.getElem_mem hc)
    have hrx := hlt _ (List.getElem_mem hc)
    have hky : keyL rows cl i = cl.getD i 0 :: (rows[i].map fun x => cl.getD x 0) := by
      unfold keyL; rw [List.getD_eq_getElem?_getD (l := rows), List.getElem?_eq_getElem hc]; rfl
    have hnr : nth default rows (i : Int) = rows[i] := nth_eq hc
    generalize rows[i] = row at *
    refine AWp.skip (z1 ?_)
    refine zs ?_
    refine AWp.block ?_
    refine reA ?_
    refine zOut ?_
    rw [hnr]
    refine zs ?_
    with_reducible apply zR
    · refine ⟨rfl, rfl, ?_⟩
      simp +decide only [go_sem, List.map]; rfl
    refine ARun.q1 rfl rfl (ql_fun (v := nL cl) (by simp +decide only [go_sem] <;> rfl)) ?_
    refine ARun.q1 rfl rfl (ql_fun (v := .int i) (by simp +decide only [go_sem] <;> rfl)) ?_
    refine zq rfl rfl (qi (f := iN) (l := cl) rfl rfl (by simp only [go_sem]; rfl) (by omega) (by kernel_rfl)) ?_
    rw [nthN (l := cl) (k := i) (by omega)]
    refine ARun.q1 rfl rfl (ql_fun (v := .int (cl.getD i 0)) (by simp +decide only [go_sem] <;> rfl)) ?_
    refine ARun.q1 rfl rfl (ql_fun (v := .u8 (UInt8.ofNat (cl.getD i 0))) (by simp +decide only [go_sem] <;> rfl)) ?_
    refine ARun.p1 rfl rfl (pl_buildSlice (es := [.u8 (UInt8.ofNat (cl.getD i 0))]) (by decide) Try.underlying32 sz5 (by kernel_rfl) (by decide) (by simp +decide only [go_sem] <;> rfl) (by simp +decide only [go_sem] <;> rfl) rfl) ?_
    refine goB ?_
    generalize hkb : (fun t : Nat => UInt8.ofNat (cl.getD i 0) :: (row.take t).map fun x => UInt8.ofNat (cl.getD x 0)) = kbp
    have hkb0 : kbp 0 = [UInt8.ofNat (cl.getD i 0)] := by rw [← hkb]; rfl
    have hkbl : ∀ t, (kbp t).length ≤ 96 := fun t => by rw [← hkb]; simp only [List.length_cons, List.length_map, List.length_take]; omega
    have hkbs : ∀ t (h : t < row.length), kbp (t + 1) = kbp t ++ [UInt8.ofNat (cl.getD row[t] 0)] := fun t h => by
      rw [← hkb]; simp only
      rw [List.take_succ_eq_append_getElem h, List.map_append]; rfl
    have hkbe : kbp row.length = kyB (keyL rows cl i) := by
      rw [← hkb, hky]; simp only [List.take_length, kyB, List.map_cons, List.map_map]; rfl
    refine AWp.loop (J := fun t : Nat => t ≤ row.length) (fun t => ⟨[(0, .iptr (mkA G rows acs) 0), (4, nL cl), (7, .int ct), (8, .mapv 0), (9, .own 1 cl.length 0 cl.length), (10, .int i), (12, .own 2 (kbp t).length 0 (kbp t).length), (58, .lst (rows.map nL)), (59, .int rows.length), (60, .int i), (71, nL row), (72, .int row.length), (73, .int t)], [mpB (numM Kq A), inB' (mixN rows.length (refL rows cl) i), byB (kbp t)]⟩) (fun t => row.length - t) 0 (Nat.zero_le _) (by rw [hkb0]; exact .wf) ?_
    intro t ht
    have hkbl := hkbl t
    have hkbs := hkbs t
    have hkb0 := hkbe
    generalize hkt : kbp t = kt at *
    refine goB ?_
    refine ifA (fun hc2 => ?_) (fun hc2 => ?_)
    · simp at hc2
      have hkbs := hkbs hc2
      have hxl := hrx _ (List.getElem_mem hc2)
      have hxn : nth default row (t : Int) = row[t] := nth_eq hc2
      generalize row[t] = x at *
      refine AWp.skip (z1 ?_)
      refine zs ?_
      refine AWp.block ?_
      refine reA ?_
      refine zOut ?_
      rw [hxn]
      refine goB ?_
      rw [nthN (l := cl) (k := x) (by omega)]
      refine ARun.p1 rfl rfl (pl_append (b := 2) (tot := kt.length) (es := [.u8 (UInt8.ofNat (cl.getD x 0))]) (by simp +decide only [go_sem] <;> rfl) (by simp +decide only [go_sem] <;> rfl) rfl (by simp) Try.underlying32 el5 rfl rfl (by simp) (fun e he => by rw [List.mem_singleton] at he; subst he; exact ⟨rfl, rfl⟩) (by simp; omega) (by simp; omega)) ?_
      rw [show kt.map AV.u8 ++ [.u8 (UInt8.ofNat (cl.getD x 0))] = (kt ++ [UInt8.ofNat (cl.getD x 0)]).map AV.u8 by rw [List.map_append]; rfl]
      refine goB ?_
      rw [wrap_succ (by omega)]
      refine ⟨t + 1, hc2, by omega, ?_⟩
      simp only [hkbs, List.length_append, List.length_cons, List.length_nil]
      exact .wf
    simp at hc2
    obtain rfl : t = row.length := by omega
    rw [hkb0] at hkt
    subst hkt
    generalize hKy : keyL rows cl i = ky at *
    refine AWp.weaken (Wk.trimM (E2 := [(0, .iptr (mkA G rows acs) 0), (4, nL cl), (7, .int ct), (8, .mapv 0), (9, .own 1 cl.length 0 cl.length), (10, .int i), (12, .lst ((kyB ky).map AV.u8)), (58, .lst (rows.map nL)), (59, .int rows.length), (60, .int i)]) (H2 := [mpB (numM Kq A), inB' (mixN rows.length (refL rows cl) i)]) 2 (Nat.zero_le _) rfl ?_ (pubB (.cons (PuB_mpB _) (.cons (PuB_inB _) .nil)))) ?_
    · exact ⟨.pu (Pu_mk G rows acs), .pu (Pu_nL cl), .pu (.base _), PubR.mapv (pre_lt (by decide)), .own (by decide), .pu (.base _), .ownM (f := AV.u8) (l := kyB ky) (by decide) rfl rfl (fun x _ c hc => by simp only [AV.cells, List.mem_singleton] at hc; subst hc; exact .base _), .pu (Pu_rowsN rows), .pu (.base _), .pu (.base _), trivial⟩
    refine AWp.exit ?_
    repeat (with_reducible apply thenQ_e)
    refine blkQ_e (thenQ_n ?_)
    have hget : (ky ∈ A → getM (numM Kq A) (Kq ky) = some ((ixN A ky : Nat) : Int)) ∧ (¬ ky ∈ A → getM (numM Kq A) (Kq ky) = none) := ⟨fun h => by rw [numM_get' Kq fun a ha e => Kq_inj (hsn a ha) hsk e, if_pos h], fun h => by rw [numM_get' Kq fun a ha e => Kq_inj (hsn a ha) hsk e, if_neg h]⟩
    refine reA ?_
    refine goB ?_
    refine ARun.q1 rfl rfl (ql_bytesStrD (by simp +decide only [go_sem] <;> rfl) Try.underlying32 Try.underlying5 Try.underlying9) ?_
    refine ARun.q1 rfl rfl (ql_lookupOk (enc := stV) (f := AV.int) (m := numM Kq A) (Kq ky) (by simp +decide only [go_sem] <;> rfl) (by simp +decide only [go_sem] <;> rfl) rfl Try.underlying167 Try.underlying9 KeyEnc.str zero3) ?_
    have hix := hix hc
    by_cases hm : ky ∈ A
    · rw [hget.1 hm]
      rw [addN_old hm] at hns
      refine goB ?_
      refine iff_ ?_
      refine goB ?_
      refine ARun.q1 rfl rfl (ql_indexAddr_own (by simp +decide only [go_sem] <;> rfl) (by simp +decide only [go_sem] <;> rfl) Try.underlying107 (by rfl) (by simp [mixN_len]; omega) (by omega) (by omega) (by kernel_rfl)) ?_
      refine ARun.p1 rfl rfl (pl_store_own (l := mixN rows.length (refL rows cl) i) (f := iN) ((refL rows cl).getD i 0) (by simp +decide only [go_sem] <;> rfl) (by rw [hix]; rfl) rfl (by rw [mixN_len]; omega) (by rw [mixN_len]; exact hc) sz3 rfl rfl) ?_
      rw [mixN_set _ _ _ hc]
      refine goB ?_
      refine ARun.q1 rfl rfl (ql_len_map (m := numM Kq A) (by simp +decide only [go_sem] <;> rfl) rfl Try.underlying167) ?_
      rw [numM_len]
      refine goB ?_
      refine ifA (fun hc5 => ?_) (fun hc5 => ?_)
      · simp at hc5
        have hlast := numL_lenle rows cl (show i + 1 ≤ rows.length from hc)
        rw [hns] at hlast
        have hleF := cntR_leF (rows := rows) (cl0 := cl0) k
        rw [if_neg (by (try simp only [List.length_append, List.length_cons, List.length_nil] at hc5 hlast); omega)]
        refine goB ?_
        exact Ret.data rfl rfl (.tup fun c hc => by
          simp only [List.mem_cons, List.not_mem_nil, or_false] at hc
          rcases hc with rfl | rfl <;> exact .base _)
      simp at hc5
      refine goB ?_
      rw [wrap_succ (by omega)]
      refine ⟨i + 1, ⟨hc, by rw [hns]; (try simp only [List.length_append, List.length_cons, List.length_nil]); omega⟩, by omega, ?_⟩
      simp only [hns]
      exact .wf
    · rw [hget.2 hm]
      rw [addN_new hm] at hns
      rw [ixN_new hm] at hix
      refine goB ?_
      refine ift_ ?_
      refine goB ?_
      refine ARun.q1 rfl rfl (ql_len_map (m := numM Kq A) (by simp +decide only [go_sem] <;> rfl) rfl Try.underlying167) ?_
      rw [numM_len]
      refine goB ?_
      refine ARun.q1 rfl rfl (ql_bytesStrD (by simp +decide only [go_sem] <;> rfl) Try.underlying32 Try.underlying5 Try.underlying9) ?_
      refine goB ?_
      refine ARun.p1 rfl rfl (pl_mapUpdate stV AV.int (m := numM Kq A) (Kq ky) (A.length : Int) (by simp +decide only [go_sem] <;> rfl) (by simp +decide only [go_sem] <;> rfl) (by simp +decide only [go_sem] <;> rfl) rfl Try.underlying167 Try.underlying9 KeyEnc.str) ?_
      rw [numM_new' Kq (fun a ha e => Kq_inj (hsn a ha) hsk e) hm]
      refine goB ?_
      refine ARun.q1 rfl rfl (ql_indexAddr_own (by simp +decide only [go_sem] <;> rfl) (by simp +decide only [go_sem] <;> rfl) Try.underlying107 (by rfl) (by simp [mixN_len]; omega) (by omega) (by omega) (by kernel_rfl)) ?_
      refine ARun.p1 rfl rfl (pl_store_own (l := mixN rows.length (refL rows cl) i) (f := iN) ((refL rows cl).getD i 0) (by simp +decide only [go_sem] <;> rfl) (by rw [hix]; rfl) rfl (by rw [mixN_len]; omega) (by rw [mixN_len]; exact hc) sz3 rfl rfl) ?_
      rw [mixN_set _ _ _ hc]
      refine goB ?_
      refine ARun.q1 rfl rfl (ql_len_map (m := numM Kq (A ++ [ky])) (by simp +decide only [go_sem] <;> rfl) rfl Try.underlying167) ?_
      rw [numM_len]
      refine goB ?_
      refine ifA (fun hc5 => ?_) (fun hc5 => ?_)
      · simp at hc5
        have hlast := numL_lenle rows cl (show i + 1 ≤ rows.length from hc)
        rw [hns] at hlast
        have hleF := cntR_leF (rows := rows) (cl0 := cl0) k
        rw [if_neg (by (try simp only [List.length_append, List.length_cons, List.length_nil] at hc5 hlast); omega)]
        refine goB ?_
        exact Ret.data rfl rfl (.tup fun c hc => by
          simp only [List.mem_cons, List.not_mem_nil, or_false] at hc
          rcases hc with rfl | rfl <;> exact .base _)
      simp at hc5
      refine goB ?_
      rw [wrap_succ (by omega)]
      refine ⟨i + 1, ⟨hc, by rw [hns]; (try simp only [List.length_append, List.length_cons, List.length_nil]); omega⟩, by omega, ?_⟩
      simp only [hns]
      exact .wf
  simp at hc
  obtain rfl : i = rows.length := by omega
  rw [mixN_all _ _ (refL_len rows cl)]
  refine AWp.weaken (Wk.trimM (E2 := [(0, .iptr (mkA G rows acs) 0), (7, .int ct), (8, .mapv 0), (9, nL (refL rows cl))]) (H2 := [mpB (numM Kq A)]) 1 (Nat.zero_le _) rfl ?_ (pubB (.cons (PuB_mpB _) .nil))) ?_
  · exact ⟨.pu (Pu_mk G rows acs), .pu (.base _), PubR.mapv (pre_lt (by decide)), .ownM (f := iN) (l := refL rows cl) (by decide) rfl (by rw [refL_len]; omega) (fun x _ c hc => by simp only [AV.cells, List.mem_singleton] at hc; subst hc; exact .base _), trivial⟩
  refine AWp.exit ?_
  repeat (with_reducible apply thenQ_e)
  refine blkQ_e (thenQ_n ?_)
  refine goB ?_
  refine ARun.q1 rfl rfl (ql_len_map (m := numM Kq A) (by simp +decide only [go_sem] <;> rfl) rfl Try.underlying167) ?_
  rw [numM_len]
  refine goB ?_
  rw [hA] at hctk2 hctk
  have hA0 : 0 < A.length := by
    have := refL_lt (cl := cl) hp
    rw [hA] at this; omega
  have hmono : ct ≤ A.length := by
    rw [← hct, ← hctk2]
    cases k with
    | zero => exact Nat.zero_le _
    | succ k => exact cntR_mono k
  by_cases he : A.length = ct
  · have hstop : refL rows cl = clF rows cl0 ∧ A.length = cntF rows cl0 := by
      obtain ⟨k', rfl⟩ : ∃ k', k = k' + 1 := ⟨k - 1, by
        rcases Nat.eq_zero_or_pos k with h | h
        · subst h
          have : ct = 0 := by rw [← hct]; rfl
          omega
        · omega⟩
      have h1 : cntR rows cl0 (k' + 1) = cntR rows cl0 k' := by rw [hctk2, he, ← hct]; rfl
      have h2 := clF_stop h1
      exact ⟨by rw [← hclk]; exact h2.1, by rw [← h2.2, hctk2]⟩
    rw [show decide ((A.length : Int) = (ct : Int)) = true by rw [decide_eq_true]; omega]
    refine ift_ ?_
    rw [hstop.1]
    rw [if_pos (by omega)]
    have hcF := hstop.2
    refine AWp.weaken (Wk.tf (E2 := [(0, .iptr (mkA G rows acs) 0), (4, nL (clF rows cl0))]) (H2 := []) 0 (pubB .nil)) ?_
    refine AWp.exit ?_
    repeat (with_reducible apply thenQ_e)
    refine blkQ_o rfl ?_
    repeat (with_reducible apply thenQ_e)
    refine blkQ_e (thenQ_n ?_)
    refine reA ?_
    rw [ld102 hG]
    refine rcA ?_
    refine bldA (parts := #[(0, .tmp 119)]) (cs := G.map AV.int ++ [nilC, nilC]) pl105 zero105' ?_ (h := fill105 hG)
    refine ARun.p1 (v := .ptr 0 1 0 0) (H' := [mcQ G nilC nilC]) rfl rfl (pl_boxQ (H := []) (x := .tmp 120) hG rfl) ?_
    refine rcA ?_
    refine zOut ?_
    refine AWp.weaken (Wk.nilC (H2 := [mcQ G (.own 1 0 0 0) nilC]) (E2 := [(0, .iptr (mkA G rows acs) 0), (4, nL (clF rows cl0)), (17, .ptr 0 1 0 0)]) 107 1 ?_ ?_) ?_
    · exact ⟨.one (NilL.app (Pu_ints G) ⟨.nil rfl, .pu (.base _), trivial⟩), trivial⟩
    · exact ⟨.pu (Pu_mk G rows acs), .pu (Pu_nL _), .ptr, trivial⟩
    refine AWp.weaken (Wk.nilC (H2 := [mcQ G (.own 1 0 0 0) (.own 2 0 0 0), rwB []]) (E2 := [(0, .iptr (mkA G rows acs) 0), (4, nL (clF rows cl0)), (17, .ptr 0 1 0 0)]) 4 1 ?_ ?_) ?_
    · exact ⟨.one (NilL.app (Pu_ints G) ⟨.own, .nil rfl, trivial⟩), .pu (PuB_rwB []), trivial⟩
    · exact ⟨.pu (Pu_mk G rows acs), .pu (Pu_nL _), .ptr, trivial⟩
    have hFl : (clF rows cl0).length = rows.length := clF_len
    refine reA ?_
    refine zOut ?_
    refine AWp.block ?_
    have hml2 : ((clF rows cl0).map fun x : Nat => AV.int x).length = (clF rows cl0).length := List.length_map _
    refine AWp.loop (J := fun i : Nat => i ≤ rows.length ∧ (numL rows (clF rows cl0) i).length ≤ cntF rows cl0) (fun i => ⟨[(0, .iptr (mkA G rows acs) 0), (4, nL (clF rows cl0)), (17, .ptr 0 1 0 0), (122, nL (clF rows cl0)), (123, .int (clF rows cl0).length), (124, .int i)],
      [mcQ G (.own 1 ((rowsF rows cl0).take (numL rows (clF rows cl0) i).length).length 0 ((rowsF rows cl0).take (numL rows (clF rows cl0) i).length).length) (.own 2 ((acsF rows cl0 acs).take (numL rows (clF rows cl0) i).length).length 0 ((acsF rows cl0 acs).take (numL rows (clF rows cl0) i).length).length), rwB ((rowsF rows cl0).take (numL rows (clF rows cl0) i).length), acB ((acsF rows cl0 acs).take (numL rows (clF rows cl0) i).length)]⟩) (fun i => rows.length - i) 0 ⟨Nat.zero_le _, Nat.zero_le _⟩ (by rw [← hml2]; exact .wf) ?_
    rintro i ⟨hi, hi2⟩
    have hns := numL_succ rows (clF rows cl0) i
    have hrt : ((rowsF rows cl0).take (numL rows (clF rows cl0) i).length).length = (numL rows (clF rows cl0) i).length := by rw [List.length_take, rowsF_len]; omega
    have hat : ((acsF rows cl0 acs).take (numL rows (clF rows cl0) i).length).length = (numL rows (clF rows cl0) i).length := by rw [List.length_take]; simp [acsF]; omega
    have hcix := fun h : i < rows.length => clF_ix (cl0 := cl0) h
    have hclt := fun h : i < rows.length => clF_lt (cl0 := cl0) h
    generalize hAi : numL rows (clF rows cl0) i = Ai at *
    generalize hkyi : keyL rows (clF rows cl0) i = kyi at *
    generalize hra : (rowsF rows cl0).take Ai.length = ra at *
    generalize haa : (acsF rows cl0 acs).take Ai.length = aa at *
    refine goB ?_
    refine ifA (fun hc6 => ?_) (fun hc6 => ?_)
    · simp at hc6
      have hi3 : i < rows.length := by omega
      have hcix := hcix hi3
      have hclt := hclt hi3
      refine AWp.skip (z1 ?_)
      refine zs ?_
      refine AWp.block ?_
      refine reA ?_
      refine zOut ?_
      rw [nthN (l := clF rows cl0) (k := i) hc6, hcix]
      refine zs ?_
      refine zs ?_
      with_reducible apply zR
      · refine ⟨rfl, rfl, ?_⟩
        simp +decide only [go_sem, List.map]; rfl
      refine ARun.q1 rfl rfl (ql_fun (v := .int (ixN Ai kyi)) (by simp +decide only [go_sem] <;> rfl)) ?_
      refine ARun.q1 rfl rfl (ql_fun (v := .ptr 0 1 0 0) (by simp +decide only [go_sem] <;> rfl)) ?_
      refine ARun.q1 rfl rfl (ql_fun (v := .ptr 0 1 0 0) (by simp +decide only [go_sem] <;> rfl)) ?_
      refine ARun.q1 rfl rfl (ql_fun (v := .ptr 0 1 0 95) (by simp +decide only [go_sem] <;> rfl)) ?_
      refine ARun.q1 rfl rfl (ql_ldQ1 (a := .own 1 ra.length 0 ra.length) (b := .own 2 aa.length 0 aa.length) (by simp +decide only [go_sem] <;> rfl) rfl hG) ?_
      refine goB ?_
      by_cases hmem : kyi ∈ Ai
      · rw [show decide (((ixN Ai kyi : Nat) : Int) < (ra.length : Int)) = true by rw [decide_eq_true]; have := ixN_lt.2 hmem; omega]
        refine ift_ ?_
        refine goB ?_
        rw [wrap_succ (by omega)]
        refine ⟨i + 1, ⟨hi3, by rw [hns, addN_old hmem]; omega⟩, by omega, ?_⟩
        simp only [hns, addN_old hmem, hra, haa]
        exact .wf
      · rw [show decide (((ixN Ai kyi : Nat) : Int) < (ra.length : Int)) = false by rw [decide_eq_false]; rw [ixN_new hmem]; omega]
        refine iff_ ?_
        refine AWp.skip (z1 ?_)
        refine reA ?_
        refine zOut ?_
        rw [ixN_new hmem] at hcix
        rw [hcix] at hclt
        refine AWp.weaken (Wk.nilC (H2 := [mcQ G (.own 1 ra.length 0 ra.length) (.own 2 aa.length 0 aa.length), rwB ra, acB aa]) (E2 := [(0, .iptr (mkA G rows acs) 0), (4, nL (clF rows cl0)), (17, .ptr 0 1 0 0), (18, .int i), (20, .own 3 0 0 0), (122, nL (clF rows cl0)), (123, .int (clF rows cl0).length), (124, .int i)]) 3 1 ?_ ?_) ?_
        · exact ⟨.one (NilL.app (Pu_ints G) ⟨.own, .own, trivial⟩), .pu (PuB_rwB ra), .pu (PuB_acB aa), trivial⟩
        · exact ⟨.pu (Pu_mk G rows acs), .pu (Pu_nL _), .ptr, .pu (.base _), .nil rfl, .pu (Pu_nL _), .pu (.base _), .pu (.base _), trivial⟩
        have hrl := hw _ (List.getElem_mem hi3)
        have hrx := hlt _ (List.getElem_mem hi3)
        have hrF := rowF_at (cl0 := cl0) hi3 hcix
        have haF := hacF i Ai.length hi3 hcix
        rw [show rows.getD i [] = rows[i] by rw [List.getD_eq_getElem?_getD, List.getElem?_eq_getElem hi3]; rfl] at hrF
        have hnr : nth default rows (i : Int) = rows[i] := nth_eq hi3
        generalize rows[i] = row at *
        refine reA ?_
        rw [h95]
        refine rcA ?_
        refine zOut ?_
        refine AWp.block ?_
        rw [hnr]
        have hrnl : (row.map fun x : Nat => AV.int x).length = row.length := List.length_map _
        refine AWp.loop (J := fun j : Nat => j ≤ row.length) (fun j => ⟨[(0, .iptr (mkA G rows acs) 0), (4, nL (clF rows cl0)), (17, .ptr 0 1 0 0), (18, .int i), (20, .own 3 (row.take j).length 0 (row.take j).length), (122, nL (clF rows cl0)), (123, .int (clF rows cl0).length), (124, .int i), (142, nL row), (143, .int row.length), (144, .int j)], [mcQ G (.own 1 ra.length 0 ra.length) (.own 2 aa.length 0 aa.length), rwB ra, acB aa, inB' ((row.take j).map fun x => (clF rows cl0).getD x 0)]⟩) (fun j => row.length - j) 0 (Nat.zero_le _) (by rw [← hrnl]; exact .wf) ?_
        intro j hj
        refine goB ?_
        refine ifA (fun hc7 => ?_) (fun hc7 => ?_)
        · simp at hc7
          have hxl := hrx _ (List.getElem_mem hc7)
          have hxn : nth default row (j : Int) = row[j] := nth_eq hc7
          have hts := List.take_succ_eq_append_getElem hc7
          have htl : (row.take j).length ≤ 95 := by rw [List.length_take]; omega
          generalize row[j] = x at *
          generalize row.take j = rj at *
          refine AWp.skip (z1 ?_)
          refine zs ?_
          refine AWp.block ?_
          refine reA ?_
          refine zOut ?_
          rw [hxn]
          refine goB ?_
          rw [nthN (l := clF rows cl0) (k := x) (by omega)]
          refine ARun.p1 rfl rfl (pl_append (b := 3) (tot := rj.length) (es := [iN ((clF rows cl0).getD x 0)]) (by simp +decide only [go_sem] <;> rfl) (by simp +decide only [go_sem] <;> rfl) rfl (by simp) Try.underlying107 el3 rfl rfl (by simp) (fun e he => by rw [List.mem_singleton] at he; subst he; exact ⟨rfl, rfl⟩) (by simp; omega) (by simp; omega)) ?_
          rw [show (rj.map fun x => (clF rows cl0).getD x 0).map iN ++ [iN ((clF rows cl0).getD x 0)] = ((rj ++ [x]).map fun x => (clF rows cl0).getD x 0).map iN by rw [List.map_append, List.map_append]; rfl]
          refine goB ?_
          rw [wrap_succ (by omega)]
          refine ⟨j + 1, hc7, by omega, ?_⟩
          simp only [hts, List.length_append, List.length_cons, List.length_nil]
          exact .wf
        simp at hc7
        obtain rfl : j = row.length := by omega
        rw [List.take_length, ← hrF]
        have hrFl : (rowF rows cl0 Ai.length).length = row.length := by rw [hrF, List.length_map]
        generalize hrw : rowF rows cl0 Ai.length = rw' at *
        refine AWp.weaken (Wk.trimM (E2 := [(0, .iptr (mkA G rows acs) 0), (4, nL (clF rows cl0)), (17, .ptr 0 1 0 0), (18, .int i), (20, nL rw'), (122, nL (clF rows cl0)), (123, .int (clF rows cl0).length), (124, .int i)]) (H2 := [mcQ G (.own 1 ra.length 0 ra.length) (.own 2 aa.length 0 aa.length), rwB ra, acB aa]) 3 (Nat.zero_le _) rfl ?_ (mcH_pub (by omega) G ra aa)) ?_
        · exact ⟨.pu (Pu_mk G rows acs), .pu (Pu_nL _), .ptr (by decide), .pu (.base _), .ownM (f := iN) (l := rw') (by decide) rfl hrFl (fun x _ c hc => by simp only [AV.cells, List.mem_singleton] at hc; subst hc; exact .base _), .pu (Pu_nL _), .pu (.base _), .pu (.base _), trivial⟩
        refine AWp.exit ?_
        repeat (with_reducible apply thenQ_e)
        refine blkQ_e (thenQ_n ?_)
        have hidx : (acs.map AV.bool)[i]? = some (.bool (acR acs i)) := by
          rw [List.getElem?_map, List.getElem?_eq_getElem (by omega)]
          unfold acR; rw [List.getD_eq_getElem?_getD, List.getElem?_eq_getElem (by omega)]; rfl
        generalize acR acs i = av at *
        with_reducible apply AWp.drawBK (k := 25) [none, none, none, none, none, none, none, none, some 0, none, none, none, none, none, none, none, none, none, none, none, none, some 1, none, none, some 2] [3, 3, 3, 3, 3, 0, 3, 3, 3, 3, 3, 3, 3, 3, 3, 3, 3, 3, 3, 3, 3, 3, 3, 3, 3] (fun c => match c with
          | 0 => [mcQ G (.own 1 ra.length 0 ra.length) (.own 2 aa.length 0 aa.length), rwB ra, acB aa]
          | 1 => [mcQ G (.own 1 ra.length 0 ra.length) (.own 2 aa.length 0 aa.length), rwB (ra ++ [rw']), acB aa]
          | 2 => [mcQ G (.own 1 ra.length 0 ra.length) (.own 2 aa.length 0 aa.length), rwB (ra ++ [rw']), acB (aa ++ [av])]
          | _ => [mcQ G (.own 1 (ra.length + 1) 0 (ra.length + 1)) (.own 2 aa.length 0 aa.length), rwB (ra ++ [rw']), acB (aa ++ [av])]) 3 follows
        · refine ⟨rfl, rfl, by kernel_rfl, by decide, ?_, ?_⟩
          · simp +decide only [go_sem, List.map, List.take]; rfl
          · simp +decide only [go_sem, List.map, List.drop]; rfl
        · kernel_rfl
        · kernel_rfl
        · rfl
        refine BRun.qf3 rfl rfl (by simp +decide only [go_sem] <;> rfl) (by simp +decide only [go_sem] <;> rfl) (by simp +decide only [go_sem] <;> rfl) (by simp +decide only [go_sem] <;> rfl) ?_
        refine BRun.qf3 rfl rfl (by simp +decide only [go_sem] <;> rfl) (by simp +decide only [go_sem] <;> rfl) (by simp +decide only [go_sem] <;> rfl) (by simp +decide only [go_sem] <;> rfl) ?_
        refine BRun.qf3 rfl rfl (by simp +decide only [go_sem] <;> rfl) (by simp +decide only [go_sem] <;> rfl) (by simp +decide only [go_sem] <;> rfl) (by simp +decide only [go_sem] <;> rfl) ?_
        refine BRun.qf3 (v := .ptr 0 1 0 0) rfl rfl (by simp +decide only [go_sem] <;> rfl) (by simp +decide only [go_sem] <;> rfl) (by simp +decide only [go_sem] <;> rfl) (by simp +decide only [go_sem] <;> rfl) ?_
        refine BRun.qf3 (v := .ptr 0 1 0 95) rfl rfl (by simp +decide only [go_sem] <;> rfl) (by simp +decide only [go_sem] <;> rfl) (by simp +decide only [go_sem] <;> rfl) (by simp +decide only [go_sem] <;> rfl) ?_
        refine BRun.q0 (v := .own 1 ra.length 0 ra.length) rfl rfl (ql_ldQ1 (b := .own 2 aa.length 0 aa.length) (by simp +decide only [go_sem] <;> rfl) rfl hG) ?_
        refine BRun.qf3 (v := nL rw') rfl rfl (by simp +decide only [go_sem] <;> rfl) (by simp +decide only [go_sem] <;> rfl) (by simp +decide only [go_sem] <;> rfl) (by simp +decide only [go_sem] <;> rfl) ?_
        refine BRun.q1 (v := .lst [nL rw']) rfl rfl (fun c _ _ => ql_buildSlice (by decide) Try.underlying103 sz107 (by kernel_rfl) (by decide) (by (simp +decide only [List.map, go_sem] <;> rfl)) (by (simp +decide only [List.map, go_sem] <;> rfl)) rfl) ?_
        refine BRun.p1 (v := .own 1 (ra.length + 1) 0 (ra.length + 1)) rfl rfl (fun ρ' h => ?_) ?_
        · have := pl_append (P := Try.prog) (ρ := ρ') (H := [mcQ G (.own 1 ra.length 0 ra.length) (.own 2 aa.length 0 aa.length), rwB ra, acB aa]) (b := 1) (tot := ra.length) (es := [nL rw']) ((h (.tmp 161) (by simp [Op.operands, Call.operands])).trans (by simp +decide only [go_sem] <;> rfl)) ((h (.tmp 163) (by simp [Op.operands, Call.operands])).trans (by simp +decide only [go_sem] <;> rfl)) rfl (by simp) Try.underlying103 el107 rfl rfl (by simp) (fun e he => by rw [List.mem_singleton] at he; subst he; exact ⟨rfl, rfl⟩) (by simp; omega) (by simp; omega)
          simp only [rwB, List.map_append, List.map_cons, List.map_nil]; exact this
        refine BRun.qf3 rfl rfl (by simp +decide only [go_sem] <;> rfl) (by simp +decide only [go_sem] <;> rfl) (by simp +decide only [go_sem] <;> rfl) (by simp +decide only [go_sem] <;> rfl) ?_
        refine BRun.qf3 (v := .ptr 0 1 0 0) rfl rfl (by simp +decide only [go_sem] <;> rfl) (by simp +decide only [go_sem] <;> rfl) (by simp +decide only [go_sem] <;> rfl) (by simp +decide only [go_sem] <;> rfl) ?_
        refine BRun.qf3 (v := .ptr 0 1 0 96) rfl rfl (by simp +decide only [go_sem] <;> rfl) (by simp +decide only [go_sem] <;> rfl) (by simp +decide only [go_sem] <;> rfl) (by simp +decide only [go_sem] <;> rfl) ?_
        refine BRun.q1 (v := .own 2 aa.length 0 aa.length) rfl rfl (fun c _ _ => by match c with | 0 => exact ql_ldQ2 (a := .own 1 ra.length 0 ra.length) (by simp +decide only [go_sem] <;> rfl) rfl hG | 1 => exact ql_ldQ2 (a := .own 1 ra.length 0 ra.length) (by simp +decide only [go_sem] <;> rfl) rfl hG | 2 => exact ql_ldQ2 (a := .own 1 ra.length 0 ra.length) (by simp +decide only [go_sem] <;> rfl) rfl hG | _ + 3 => exact ql_ldQ2 (a := .own 1 (ra.length + 1) 0 (ra.length + 1)) (by simp +decide only [go_sem] <;> rfl) rfl hG) ?_
        refine BRun.qf3 (v := .iptr (mkA G rows acs) 0) rfl rfl (by simp +decide only [go_sem] <;> rfl) (by simp +decide only [go_sem] <;> rfl) (by simp +decide only [go_sem] <;> rfl) (by simp +decide only [go_sem] <;> rfl) ?_
        refine BRun.qf3 (v := .iptr (mkA G rows acs) 0) rfl rfl (by simp +decide only [go_sem] <;> rfl) (by simp +decide only [go_sem] <;> rfl) (by simp +decide only [go_sem] <;> rfl) (by simp +decide only [go_sem] <;> rfl) ?_
        refine BRun.qf3 (v := .iptr (mkA G rows acs) 96) rfl rfl (by simp +decide only [go_sem] <;> rfl) (by simp +decide only [go_sem] <;> rfl) (by simp +decide only [go_sem] <;> rfl) (by simp +decide only [go_sem] <;> rfl) ?_
        refine BRun.q1 (v := lB acs) rfl rfl (fun c _ _ => ql_mA (by simp +decide only [go_sem] <;> rfl) hG) ?_
        refine BRun.qf3 (v := .int i) rfl rfl (by simp +decide only [go_sem] <;> rfl) (by simp +decide only [go_sem] <;> rfl) (by simp +decide only [go_sem] <;> rfl) (by simp +decide only [go_sem] <;> rfl) ?_
        refine BRun.q1 (v := .iptr (.bool av) 0) rfl rfl (fun c _ _ => ql_indexAddr_lst (by simp +decide only [go_sem] <;> rfl) (by simp +decide only [go_sem] <;> rfl) Try.underlying71 (by omega) (e := .bool av) (by simpa using hidx) (by kernel_rfl)) ?_
        refine BRun.qf3 (v := .bool av) rfl rfl (by simp +decide only [go_sem] <;> rfl) (by simp +decide only [go_sem] <;> rfl) (by simp +decide only [go_sem] <;> rfl) (by simp +decide only [go_sem] <;> rfl) ?_
        refine BRun.q1 (v := .lst [.bool av]) rfl rfl (fun c _ _ => ql_buildSlice (by decide) Try.underlying71 sz4 (by kernel_rfl) (by decide) (by (simp +decide only [List.map, go_sem] <;> rfl)) (by (simp +decide only [List.map, go_sem] <;> rfl)) rfl) ?_
        refine BRun.p1 (v := .own 2 (aa.length + 1) 0 (aa.length + 1)) rfl rfl (fun ρ' h => ?_) ?_
        · have := pl_append (P := Try.prog) (ρ := ρ') (H := [mcQ G (.own 1 ra.length 0 ra.length) (.own 2 aa.length 0 aa.length), rwB (ra ++ [rw']), acB aa]) (b := 2) (tot := aa.length) (es := [.bool av]) ((h (.tmp 168) (by simp [Op.operands, Call.operands])).trans (by simp +decide only [go_sem] <;> rfl)) ((h (.tmp 176) (by simp [Op.operands, Call.operands])).trans (by simp +decide only [go_sem] <;> rfl)) rfl (by simp) Try.underlying71 el4 rfl rfl (by simp) (fun e he => by rw [List.mem_singleton] at he; subst he; exact ⟨rfl, rfl⟩) (by simp; omega) (by simp; omega)
          simp only [acB, List.map_append, List.map_cons, List.map_nil]; exact this
        refine BRun.qf3 (v := .ptr 0 1 0 0) rfl rfl (by simp +decide only [go_sem] <;> rfl) (by simp +decide only [go_sem] <;> rfl) (by simp +decide only [go_sem] <;> rfl) (by simp +decide only [go_sem] <;> rfl) ?_
        refine BRun.qf3 (v := .ptr 0 1 0 95) rfl rfl (by simp +decide only [go_sem] <;> rfl) (by simp +decide only [go_sem] <;> rfl) (by simp +decide only [go_sem] <;> rfl) (by simp +decide only [go_sem] <;> rfl) ?_
        refine BRun.p1 (v := .bad) rfl rfl (fun ρ' h => pl_stQ1 (G := G) (a := .own 1 ra.length 0 ra.length) (b := .own 2 aa.length 0 aa.length) ((h (.tmp 179) (by simp [Op.operands])).trans (by simp +decide only [go_sem] <;> rfl)) ((h (.tmp 164) (by simp [Op.operands])).trans (by simp +decide only [go_sem] <;> rfl)) rfl hG) ?_
        refine BRun.nil ?_
        refine rcA ?_
        refine ARun.p1 rfl rfl (pl_stQ2 (G := G) (a := .own 1 (ra.length + 1) 0 (ra.length + 1)) (b := .own 2 aa.length 0 aa.length) (by simp +decide only [go_sem] <;> rfl) (by simp +decide only [go_sem] <;> rfl) rfl hG) ?_
        refine goB ?_
        rw [wrap_succ (by omega)]
        have hrs : (rowsF rows cl0).take (Ai.length + 1) = ra ++ [rw'] := by
          rw [List.take_succ_eq_append_getElem (by rw [rowsF_len]; exact hclt), hra, ← hrw]; simp [rowsF]
        have has : (acsF rows cl0 acs).take (Ai.length + 1) = aa ++ [av] := by
          rw [List.take_succ_eq_append_getElem (by simp [acsF]; exact hclt), haa, ← haF]; simp [acsF]
        refine ⟨i + 1, ⟨hi3, by rw [hns, addN_new hmem]; simp only [List.length_append, List.length_cons, List.length_nil]; omega⟩, by omega, ?_⟩
        simp only [hns, addN_new hmem, List.length_append, List.length_cons, List.length_nil, hrs, has]
        exact .wf
    simp at hc6
    have hie : i = rows.length := by omega
    have hAc : Ai.length = cntF rows cl0 := by rw [← hAi, hie]; exact clF_fix.2
    have hra2 : ra = rowsF rows cl0 := by rw [← hra, List.take_of_length_le (by rw [rowsF_len]; omega)]
    have haa2 : aa = acsF rows cl0 acs := by rw [← haa, List.take_of_length_le (by simp [acsF]; omega)]
    rw [← hra2, ← haa2]
    refine goB ?_
    exact Ret.pub (vs := [.ptr 0 1 0 0, .bool true]) (by kernel_rfl) (PubR.tup' (show PubRL _ _ [_, _] [_, _] from ⟨PubR.iptr (d := mkA G ra aa) (pre_ge (Nat.zero_le _)) rfl rfl rfl (PubRL.app (Pu_ints G) (show PubRL _ _ [_, _] [_, _] from ⟨.ownM (f := nL) (l := ra) (pre_ge (Nat.zero_le _)) rfl rfl (fun x _ c hc => by simp only [AV.cells, List.mem_singleton] at hc; subst hc; exact Pu_nL x), .ownM (f := AV.bool) (l := aa) (pre_ge (Nat.zero_le _)) rfl rfl (Pu_bools aa), trivial⟩)), .pu (.base _), trivial⟩))
  rw [show decide ((A.length : Int) = (ct : Int)) = false by rw [decide_eq_false]; omega]
  refine iff_ ?_
  refine goB ?_
  refine ARun.q1 rfl rfl (ql_len_map (m := numM Kq A) (by simp +decide only [go_sem] <;> rfl) rfl Try.underlying167) ?_
  rw [numM_len]
  refine goB ?_
  refine ⟨k + 1, ⟨by rw [hctk]; omega, by rw [hctk]; omega⟩, by omega, ?_⟩
  simp only [hctk, hclk]
  exact Wk.tf 0 (pubB .nil)
end Go.Ab
