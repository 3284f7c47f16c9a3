/- Part of the proof. -/
import Derived.Test.YtjfahhbobiiphaaZC
import Derived.Test.YtjfahhbobiiphaaYR
import Derived.Test.YtjfahhbobiiphaaAbL
set_option linter.unusedSimpArgs false
set_option linter.unusedVariables false
set_option maxHeartbeats 4000000
namespace Go.Ab
open Go Go.Ab Go.Proofs Go.Ab.Ty

def cR (δ : Nat → Nat → Nat) (ac : Nat → Bool) (n k : Nat) : List Nat := (List.range n).map fun q => min (cnW δ ac k q) mxC
section
variable {δ : Nat → Nat → Nat} {ac : Nat → Bool}
theorem cR_len (n k : Nat) : (cR δ ac n k).length = n := by simp [cR]
end
def mxS (n : Nat) (D : List Nat) (i v : Nat) : List Nat := (mixN n D i).set i v
theorem mxS_len (n : Nat) (D : List Nat) (i v : Nat) : (mxS n D i v).length = n := by simp [mxS, mixN_len]
attribute [go_sem] mxS_len cR_len
end Go.Ab
set_option maxHeartbeats 4000000
namespace Go.Ab
open Go Go.Ab Go.Proofs Go.Ab.Ty

def smI (l : List Nat) : List (Int × Bool) := l.map fun x : Nat => ((x : Int), true)
theorem smI_get (x : Nat) : ∀ l : List Nat, getM (smI l) (x : Int) = if x ∈ l then some true else none
  | [] => by simp [smI, getM]
  | q :: l => by
    have ih := smI_get x l
    unfold smI at ih ⊢
    rw [List.map_cons, getM, ih]
    by_cases h : q = x
    · subst h; simp
    · have h' : ¬ ((q : Int) = (x : Int)) := fun e => h (by omega)
      rw [if_neg h']
      have h2 : (x ∈ q :: l) ↔ x ∈ l := by
        rw [List.mem_cons]
        exact ⟨fun h3 => h3.resolve_left fun e => h e.symm, .inr⟩
      simp only [h2]
theorem smI_new {l : List Nat} {x : Nat} (h : ¬ x ∈ l) : setM (smI l) (x : Int) true = smI (l ++ [x]) := by
  rw [setM_none _ _ _ (by rw [smI_get, if_neg h])]
  simp [smI]
abbrev smJ (l : List Nat) : ABlk := mapB encI AV.bool (smI l)
theorem PuB_smJ (l : List Nat) : ∀ e ∈ (smJ l).es, ∀ c ∈ e.cells, Pu c := fun e he c hc => by
  simp only [smJ, mapB, List.mem_singleton] at he; subst he
  simp only [AV.cells, List.mem_cons, List.not_mem_nil, or_false] at hc
  rcases hc with rfl | rfl
  · exact .agg fun c hc => by
      obtain ⟨x, _, rfl⟩ := List.mem_map.1 hc
      exact .base _
  · exact .agg fun c hc => by
      obtain ⟨x, _, rfl⟩ := List.mem_map.1 hc
      exact .base _
abbrev enR (st : Nat → Fin 95 → Nat) (w : Wd) : AV := .agg [.int (dr st 0 w : Nat), str (tw w)]
abbrev quR (st : Nat → Fin 95 → Nat) (Q : List Wd) : ABlk := ⟨117, 2, Q.map (enR st)⟩
theorem PuB_quR (st : Nat → Fin 95 → Nat) (Q : List Wd) : ∀ e ∈ (quR st Q).es, ∀ c ∈ e.cells, Pu c := fun e he c hc => by
  obtain ⟨x, _, rfl⟩ := List.mem_map.1 he
  simp only [AV.cells, List.mem_cons, List.not_mem_nil, or_false] at hc
  rcases hc with rfl | rfl <;> exact .base _
theorem tw_snoc (w : Wd) (a : Fin 95) : tw (w ++ [a]) = tw w ++ bsL [lb a] := by
  refine ByteArray.ext ?_
  rw [ByteArray.data_append]
  simp [tw, bsL]
instance : OfNat Wd 0 := ⟨[]⟩
theorem Pu_t3 (u v w : Value) : Pu (.tup [.base u, .base v, .base w]) := .tup fun c hc => by
  simp only [List.mem_cons, List.not_mem_nil, or_false] at hc
  rcases hc with rfl | rfl | rfl <;> exact .base _
open Classical in
theorem shortest_ok (r : Rx) (hok : r.ok) (hc : r.cnt ≤ 1000000000) : Fn Try.prog 50 [encX r] (.tup [str (shV r).1.1, .bool (shV r).1.2, .int (shV r).2]) := by
  have i1 := leastOf_ok r hok hc
  have hla := fun hv m h => loR_ok (r := r) hv (m := m) h
  unfold encLo at i1
  unfold shV
  by_cases hv : r.valid
  rotate_left
  · rw [if_neg hv] at i1 ⊢
    obtain ⟨o, S, l⟩ := r
    rw [encX_mk] at i1 ⊢
    refine Fn.intro' [(0, .agg [.int o, str S, .lst (l.map encX)])] 1 73 Try.func50 (by kernel_rfl) rfl rfl rfl rfl rfl ?_
    refine goB ?_
    refine callA (i1) ?_
    refine goB ?_
    refine ift_ ?_
    refine goB ?_
    exact Ret.data rfl rfl (Pu_t3 _ _ _)
  rw [if_pos hv] at i1 ⊢
  have hla := hla hv
  rcases h1 : loR r with _ | m
  · rw [h1] at i1
    obtain ⟨o, S, l⟩ := r
    rw [encX_mk] at i1 ⊢
    refine Fn.intro' [(0, .agg [.int o, str S, .lst (l.map encX)])] 1 73 Try.func50 (by kernel_rfl) rfl rfl rfl rfl rfl ?_
    refine goB ?_
    refine callA (i1) ?_
    refine goB ?_
    refine ift_ ?_
    refine goB ?_
    exact Ret.data rfl rfl (Pu_t3 _ _ _)
  rw [h1] at i1
  obtain ⟨k1, k2, k3⟩ := hla m h1
  have k4 := k1.w
  have hs1 := fun p c hp hc => step_ok m k4 p c hp hc
  have hstc := fun q hq a => k2.cl q hq a
  have hlang := k2.lang
  have hst : ∀ q (c : Nat) (h : c < 95), stM m q ⟨c, h⟩ = stepN m.1 m.2.1 q c := fun q c h => rfl
  have hG := k4.gl
  have hal := k4.al
  have hpos := k4.pos
  clear hla k1 k2 h1
  have hdl := fun (w : Wd) => dr_lt (st := stM m) hstc w 0 hpos
  generalize hLL : lng r = L at *
  obtain ⟨o, S, l⟩ := r
  rw [encX_mk] at i1 ⊢
  obtain ⟨G, rows, acs⟩ := m
  simp only [encMk] at i1 hG hal hpos hs1 hlang hst k3 hstc hdl ⊢
  have h96 := (mcM_95 hG (.lst (rows.map nL)) (lB acs)).2
  generalize stM (G, rows, acs) = st at *
  refine Fn.intro' [(0, .agg [.int o, str S, .lst (l.map encX)])] 1 73 Try.func50 (by kernel_rfl) rfl rfl rfl rfl rfl ?_
  refine goB ?_
  refine callA (i1) ?_
  refine goB ?_
  refine iff_ ?_
  refine AWp.weaken (Wk.tf (E2 := [(5, .iptr (mkA G rows acs) 0)]) (H2 := []) 0 (pubB .nil)) ?_
  refine goB ?_
  refine ARun.p1 rfl rfl (pl_makeMap encI AV.bool) ?_
  refine rcA ?_
  refine ARun.p1 rfl rfl (pl_insert encI AV.bool 0 true (by simp +decide only [go_sem] <;> rfl) (by simp +decide only [go_sem] <;> rfl) (by simp +decide only [go_sem] <;> rfl) (by rfl) Try.underlying115 Try.underlying3 (KeyEnc.int .i64)) ?_
  rw [show setM ([] : List (Int × Bool)) 0 true = smI [0] from rfl]
  refine goA ?_
  refine bldA pl117 zero117 ?_
  refine ARun.p1 rfl rfl (pl_buildSlice (es := [.agg [.int 0, str ByteArray.empty]]) (by decide) Try.underlying118 sz117 (by kernel_rfl) (by decide) (by simp +decide only [go_sem] <;> rfl) (by simp +decide only [go_sem] <;> rfl) rfl) ?_
  rw [show ([.agg [.int 0, str ByteArray.empty]] : List AV) = [([] : Wd)].map (enR st) from rfl]
  refine goB ?_
  refine AWp.loop (J := fun p : List Wd × Nat => Bfs st (acR acs) p.1 p.2 0 ∧ p.2 ≤ p.1.length) (fun p => ⟨[(5, .iptr (mkA G rows acs) 0), (7, .mapv 0), (8, .own 1 p.1.length 0 p.1.length), (9, .int p.2)], [smJ (p.1.map (dr st 0)), quR st p.1]⟩) (fun p => 201 - p.2) ([[]], 0) ⟨.init, Nat.zero_le _⟩ .wf ?_
  rintro ⟨Q, k⟩ ⟨hB, hk⟩
  simp only at hk hB ⊢
  have hQl := hB.len hpos hstc
  have hml : (Q.map (enR st)).length = Q.length := List.length_map _
  refine goB ?_
  refine ifA (fun hc => ?_) (fun hc => ?_)
  · simp at hc
    have hc : k < Q.length := by omega
    have hQk : Q[k]? = some Q[k] := List.getElem?_eq_getElem hc
    have hnk : nth 0 Q (k : Int) = Q[k] := nth_eq hc
    generalize Q[k] = x at *
    have hpl := hdl x
    generalize hp : dr st 0 x = p at *
    refine goB ?_
    rw [hnk]
    refine keF [5, 7, 8, 9, 10] ?_
    refine (show AWp Try.prog _ _ _ ⟨[(5, .iptr (mkA G rows acs) 0), (7, .mapv 0), (8, .own 1 Q.length 0 Q.length), (9, .int k), (10, .ptr 2 1 0 0)], [smJ (Q.map (dr st 0)), quR st Q, ⟨117, 2, [enR st x]⟩]⟩ from ?_)
    rw [show enR st x = .agg [.int (p : Nat), str (tw x)] by rw [← hp]]
    refine drA (k := 8) follows (hr := ?_)
    refine goB ?_
    rw [h96]
    refine rcA ?_
    rw [nth_at (acs := acs) (k := p) (by omega)]
    refine goB ?_
    by_cases hne : acR acs p = true
    · rw [hne]
      refine ift_ ?_
      rw [shL_some (hB.acc hQk (by rw [hp]; exact hne) hlang)]
      refine goB ?_
      exact Ret.data rfl rfl (Pu_t3 _ _ _)
    rw [Bool.eq_false_iff.2 hne]
    refine iff_ ?_
    refine AWp.skip (z1 ?_)
    refine keF [5, 7, 8, 9, 10] ?_
    refine goB ?_
    refine AWp.loop (J := fun y : List Wd × Nat => Bfs st (acR acs) y.1 k y.2 ∧ y.1[k]? = some x ∧ y.2 ≤ 95) (fun y => ⟨[(45, .int y.2), (5, .iptr (mkA G rows acs) 0), (7, .mapv 0), (8, .own 1 y.1.length 0 y.1.length), (9, .int k), (10, .ptr 2 1 0 0)], [smJ (y.1.map (dr st 0)), quR st y.1, ⟨117, 2, [.agg [.int (p : Nat), str (tw x)]]⟩]⟩) (fun y => 95 - y.2) (Q, 0) ⟨hB, hQk, Nat.zero_le _⟩ .wf ?_
    rintro ⟨B, c⟩ ⟨hB2, hBk, hcl⟩
    simp only at hB2 hBk hcl ⊢
    have hBl := hB2.len hpos hstc
    have hi1 := hs1 p c hpl
    have hmlB : (B.map (enR st)).length = B.length := List.length_map _
    refine goB ?_
    refine ifA (fun hc2 => ?_) (fun hc2 => ?_)
    · simp at hc2
      have hc2 : c < 95 := by omega
      have hi1 := hi1 hc2
      have hst := hst p c hc2
      generalize hy : stepN G rows p c = y at *
      refine goB ?_
      refine callA (hi1) ?_
      refine goB ?_
      refine ARun.q1 rfl rfl (ql_lookup (enc := encI) (f := AV.bool) (m := smI (B.map (dr st 0))) (y : Int) (by simp +decide only [go_sem] <;> rfl) (by simp +decide only [go_sem] <;> rfl) rfl Try.underlying115 Try.underlying3 (KeyEnc.int .i64) zero4) ?_
      rw [smI_get y]
      by_cases hm : y ∈ B.map (dr st 0)
      · rw [if_pos hm]
        refine goB ?_
        refine iff_ ?_
        refine goB ?_
        rw [wrap_succ (by omega)]
        exact ⟨(B, c + 1), ⟨hB2.old hBk hc2 (by rw [hp, hst]; exact hm), hBk, hc2⟩, by simp only; omega, .wf⟩
      · rw [if_neg hm]
        refine goB ?_
        refine ift_ ?_
        refine goB ?_
        refine ARun.p1 rfl rfl (pl_mapUpdate encI AV.bool (m := smI (B.map (dr st 0))) (y : Int) true (by simp +decide only [go_sem] <;> rfl) (by simp +decide only [go_sem] <;> rfl) (by simp +decide only [go_sem] <;> rfl) rfl Try.underlying115 Try.underlying3 (KeyEnc.int .i64)) ?_
        rw [smI_new hm]
        refine goB ?_
        rw [u8_let hc2]
        have hxl := hB2.ln k x hBk
        have hmm : B.map (dr st 0) ++ [y] = (B ++ [x ++ [(⟨c, hc2⟩ : Fin 95)]]).map (dr st 0) := by rw [List.map_append, List.map_cons, List.map_nil, dr_app, hp, ← hst]; rfl
        refine ARun.q1 rfl rfl (ql_bytesStrD (l := [lb ⟨c, hc2⟩]) (by simp +decide only [go_sem] <;> rfl) Try.underlying32 Try.underlying5 Try.underlying9) ?_
        refine ARun.q1 rfl rfl (ql_addStr (a := tw x) (b := bsL [lb ⟨c, hc2⟩]) (by simp +decide only [go_sem] <;> rfl) (by simp +decide only [go_sem] <;> rfl) (by rw [tw_size]; have : (bsL [lb ⟨c, hc2⟩]).size = 1 := rfl; omega)) ?_
        rw [← tw_snoc]
        refine goB ?_
        refine bldA pl117 zero117 ?_
        refine goB ?_
        have hew : enR st (x ++ [(⟨c, hc2⟩ : Fin 95)]) = .agg [.int (y : Nat), str (tw (x ++ [(⟨c, hc2⟩ : Fin 95)]))] := by
          unfold enR
          rw [dr_app, hp, ← hst]; rfl
        refine ARun.p1 rfl rfl (pl_append (b := 1) (tot := B.length) (es := [.agg [.int (y : Nat), str (tw (x ++ [(⟨c, hc2⟩ : Fin 95)]))]]) (by simp +decide only [go_sem] <;> rfl) (by simp +decide only [go_sem] <;> rfl) rfl (by simp) Try.underlying118 el117 rfl rfl (by simp) (fun e he => by rw [List.mem_singleton] at he; subst he; exact ⟨rfl, rfl⟩) (by simp; omega) (by simp; omega)) ?_
        rw [← hew, show B.map (enR st) ++ [enR st (x ++ [(⟨c, hc2⟩ : Fin 95)])] = (B ++ [x ++ [(⟨c, hc2⟩ : Fin 95)]]).map (enR st) by rw [List.map_append]; rfl, hmm]
        have hkB := (List.getElem?_eq_some_iff.1 hBk).1
        refine goB ?_
        rw [wrap_succ (by omega)]
        refine ⟨(B ++ [x ++ [(⟨c, hc2⟩ : Fin 95)]], c + 1), ⟨hB2.new hBk hc2 (by rw [hp, hst]; exact hm), by simp only; rw [List.getElem?_append_left hkB]; exact hBk, hc2⟩, by simp only; omega, ?_⟩
        simp only [List.length_append, List.length_cons, List.length_nil]
        exact .wf
    simp at hc2
    obtain rfl : c = 95 := by omega
    refine goB ?_
    rw [wrap_succ (by omega)]
    have hk2 := (List.getElem?_eq_some_iff.1 hBk).1
    refine ⟨(B, k + 1), ⟨hB2.next hBk (by rw [hp]; exact Bool.eq_false_iff.2 hne), hk2⟩, by simp only; omega, ?_⟩
    exact Wk.tf 2 (pubB (.cons (PuB_smJ _) (.cons (PuB_quR _ _) .nil)))
  simp at hc
  have hQk : Q.length ≤ k := by omega
  rw [shL_none (hB.fin hQk hlang)]
  refine goB ?_
  exact Ret.data rfl rfl (Pu_t3 _ _ _)
end Go.Ab
