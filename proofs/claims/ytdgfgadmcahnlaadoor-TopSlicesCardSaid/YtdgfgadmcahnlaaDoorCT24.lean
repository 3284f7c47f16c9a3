/- Part of the proof. -/
import Derived.Test.YtdgfgadmcahnlaaDoorTO
import Derived.Test.YtdgfgadmcahnlaaDoorAbL
set_option linter.unusedSimpArgs false
set_option linter.unusedVariables false
set_option maxHeartbeats 4000000
namespace Go.Ab
open Go Go.Ab Go.Proofs Go.Ab.Ty

/-! ### TextCuts -/
def joinB (x y : List Nat) (t k : Nat) : List Nat := x ++ ((y.take k).drop (if x = [] then 0 else 1)).map (t + ·)
theorem part0_pz {s : ByteArray} (hv : Vd s 0) {a k : Nat} (ha : a ≤ nch s) (hk : k ≤ a) : pz (part s 0 a) k = pz s k := by
  have := part_pz hv (Nat.zero_le a) ha k (by omega)
  rw [Nat.zero_add] at this
  have h0 : pz s 0 = 0 := rfl
  omega
theorem cutX {s : ByteArray} (hv : Vd s 0) {a : Nat} (ha : a ≤ nch s) (h0 : 0 < a) : bnds (part s 0 a) = (bI (cls s) a).map (pz s) ++ [pz s a] := by
  have hsz := part_size s 0 a
  have hp := pz_step (s := s) h0 ha
  rw [bnds_mks (by omega), mks_I, part_mI hv (Nat.zero_le a) ha, Nat.sub_zero, List.map_append, List.map_cons, List.map_nil, part0_pz hv ha (Nat.le_refl _)]
  congr 1
  have e : shf (cls s) 0 = cls s := by funext j; show cls s (0 + j) = cls s j; rw [Nat.zero_add]
  rw [e]
  exact List.map_congr_left fun k hk => part0_pz hv ha (Nat.le_of_lt (bI_lt hk).1)
theorem cutY {s : ByteArray} (hv : Vd s 0) {a : Nat} (ha : a < nch s) : (bnds (part s a (nch s))).map (pz s a + ·) = ((bI (shf (cls s) a) (nch s - a) ++ [nch s - a]).map (a + ·)).map (pz s) := by
  have hsz := part_size s a (nch s)
  have hp := pz_step (s := s) ha (Nat.le_refl _)
  rw [bnds_mks (by omega), mks_I, part_mI hv (Nat.le_of_lt ha) (Nat.le_refl _), List.map_map, List.map_map]
  refine List.map_congr_left fun k hk => ?_
  have : k ≤ nch s - a := by
    rcases List.mem_append.1 hk with h | h
    · exact Nat.le_of_lt (bI_lt h).1
    · rw [List.mem_singleton] at h; omega
  exact part_pz hv (Nat.le_of_lt ha) (Nat.le_refl _) k this
theorem cut_ord {s : ByteArray} (hv : Vd s 0) {a : Nat} (ha : a ≤ nch s) {k : Nat} (hk : k < (bnds (part s a (nch s))).length) {z : Nat} (hz : z ∈ joinB (bnds (part s 0 a)) (bnds (part s a (nch s))) (pz s a) k) (hd : bnds (part s 0 a) = [] ∨ 1 ≤ k) :
    z < pz s a + (bnds (part s a (nch s)))[k] := by
  have hinc : (bnds (part s a (nch s))).Pairwise (· < ·) := by
    unfold bnds
    split
    · have := mks_inc (part s a (nch s)); rw [mks] at this; rename_i h; rw [if_pos h] at this; exact this
    · exact .nil
  have hx : ∀ z ∈ bnds (part s 0 a), z ≤ pz s a := by
    intro z hz
    rcases Nat.eq_zero_or_pos a with rfl | h0
    · rw [bnds_nil (by rw [part_size]; omega)] at hz; cases hz
    · rw [cutX hv ha h0, List.mem_append, List.mem_singleton] at hz
      rcases hz with hz | hz
      · obtain ⟨i, hi, rfl⟩ := List.mem_map.1 hz
        exact pz_mono s (Nat.le_of_lt (bI_lt hi).1)
      · omega
  rw [joinB, List.mem_append] at hz
  rcases hz with hz | hz
  · have h1 := hx z hz
    have hk0 : 0 < k := by
      rcases hd with hd | hd
      · rw [hd] at hz; cases hz
      · exact hd
    have := List.pairwise_iff_getElem.1 hinc 0 k (by omega) hk hk0
    omega
  · obtain ⟨w, hw, rfl⟩ := List.mem_map.1 hz
    have hw := List.mem_of_mem_drop hw
    obtain ⟨i, hi, rfl⟩ := List.mem_iff_getElem.1 hw
    simp at hi
    rw [List.getElem_take]
    have := List.pairwise_iff_getElem.1 hinc i k (by omega) hk (by omega)
    omega
theorem cut_all {s : ByteArray} (hv : Vd s 0) {a : Nat} (hA : a ∈ mI s) (hs : 0 < s.size) : joinB (bnds (part s 0 a)) (bnds (part s a (nch s))) (pz s a) (bnds (part s a (nch s))).length = bnds s := by
  obtain ⟨ha, hB⟩ := mI_B hA
  have hm : bnds s = (mI s).map (pz s) := by rw [bnds_mks hs, mks_I]
  rw [joinB, List.take_length, hm]
  rcases Nat.eq_zero_or_pos a with rfl | h0
  · have e : part s 0 (nch s) = s := part_all
    rw [bnds_nil (s := part s 0 0) (by rw [part_size]; omega), if_pos rfl, e, List.nil_append, List.drop_zero]
    have h00 : pz s 0 = 0 := rfl
    rw [h00, hm]
    simp
  have hx := cutX hv ha h0
  rw [if_neg (by rw [hx]; simp)]
  rcases Nat.lt_or_ge a (nch s) with hlt | hge
  · obtain ⟨r, hr⟩ := bI_head (cl := shf (cls s) a) (nch s - a) (by omega)
    have hy := cutY hv hlt
    have hy2 : ((bnds (part s a (nch s))).drop 1).map (pz s a + ·) = ((r ++ [nch s - a]).map (a + ·)).map (pz s) := by
      rw [List.map_drop, hy, hr]; rfl
    rw [hy2, hx, mI_cut hB ha, hr]
    simp
  · obtain rfl : a = nch s := by omega
    rw [bnds_nil (s := part s (nch s) (nch s)) (by rw [part_size]; omega), hx, mI]
    simp
theorem cut_0 {s : ByteArray} (hv : Vd s 0) {a : Nat} (ha : a ≤ nch s) (h : bnds (part s 0 a) ≠ []) : 0 < a ∧ (bnds (part s 0 a))[(bnds (part s 0 a)).length - 1]? = some (pz s a) := by
  have h0 : 0 < a := by
    rcases Nat.eq_zero_or_pos a with rfl | h0
    · exact absurd (bnds_nil (s := part s 0 0) (by rw [part_size]; omega)) h
    · exact h0
  refine ⟨h0, ?_⟩
  rw [cutX hv ha h0]
  simp
theorem bnds_0 {s : ByteArray} (h : 0 < (bnds s).length) : (bnds s)[0] = 0 := by
  by_cases hs : 0 < s.size
  · have h1 := mks_first s
    have hml := mks_len s
    rw [mk_get (by omega)] at h1
    simp only [bnds_mks hs]
    exact h1
  · have := bnds_nil (s := s) (by omega)
    rw [this] at h; simp at h
theorem withinX_ok (i : Int) (n : Nat) (hn : 0 < n) (hn2 : n ≤ 1000000) : ∃ v : Nat, v < n ∧ Fn Tryd.prog 37 [.int i, .int n] (.int v) := by
  obtain ⟨v, hv⟩ : ∃ v : Nat, v = (IntKind.u64.wrap i % (n : Int)).toNat := ⟨_, rfl⟩
  refine ⟨v, by have := Int.emod_lt_of_pos (IntKind.u64.wrap i) (show (0 : Int) < n by omega); have := Int.emod_nonneg (IntKind.u64.wrap i) (show (n : Int) ≠ 0 by omega); omega, ?_⟩
  have hw : IntKind.u64.wrap (n : Int) = n := IntWalk.u64_in _ ⟨by omega, by omega⟩
  have hu : (IntKind.u64.wrap (n : Int) = 0) = False := eq_false (by rw [hw]; omega)
  have h0 : 0 ≤ IntKind.u64.wrap i := by rw [IntKind.wrap_u64]; omega
  have hlt := Int.emod_lt_of_pos (IntKind.u64.wrap i) (show (0 : Int) < n by omega)
  have hge := Int.emod_nonneg (IntKind.u64.wrap i) (show (n : Int) ≠ 0 by omega)
  have hr : IntKind.i64.wrap ((IntKind.u64.wrap i).tmod (IntKind.u64.wrap (n : Int))) = (v : Int) := by
    rw [hw, Int.tmod_eq_emod_of_nonneg h0, wrap_id (by omega) (by omega)]; omega
  refine Fn.intro' [(0, .int i), (1, .int n)] 2 11 Tryd.func37 (by kernel_rfl) rfl rfl rfl rfl rfl ?_
  repeat (first | (with_reducible first | apply zs | apply zN | apply z1 | apply z2 | apply z3 | apply z4 | apply z5 | apply z6 | refine z7 rfl ?_ | apply zb | apply zk | apply zr | apply ze | apply y1 | apply y2) | ((with_reducible apply zR); (refine ⟨rfl, rfl, ?_⟩; simp +decide only [go_sem, List.map]; rfl)) | ((with_reducible apply zG); (simp +decide only [go_sem, hu]; rfl); (simp +decide only [go_sem, hu]; (repeat simp +decide only [go_sem, hu]); rfl)) | (refine zp rfl rfl (pl_box (by simp +decide only [go_sem, hu]; rfl) rfl) ?_) | (refine zp rfl rfl (pl_alloc (by simp only [go_sem]; rfl) rfl) ?_) | (refine zp rfl rfl (pl_store (by simp +decide only [go_sem, hu]; rfl) (by simp +decide only [go_sem, hu]; rfl) (by simp +decide only [go_sem]; rfl) (by rfl) (by rfl) (by kernel_rfl) (by rfl) (by rfl)) ?_) | (refine zq rfl rfl (qi rfl rfl (by simp only [go_sem]; rfl) (by first | omega | (simp; omega)) (by kernel_rfl)) ?_) | (refine zq rfl rfl (qo rfl rfl (by simp only [go_sem]; rfl) rfl (by first | omega | (simp; omega)) (by simp only [go_sem] <;> rfl)) ?_) | (refine zq rfl rfl (qw 0 _ rfl rfl (by first | rfl | (simp only [Nat.zero_add] <;> rfl)) (by first | omega | (simp; omega)) (by simp only [go_sem] <;> rfl)) ?_) | (refine zq rfl rfl (qb (by simp only [go_sem]; rfl) (by simp only [go_sem]; rfl) (by decide) (by kernel_rfl) (by simp +decide only [List.map, go_sem] <;> rfl) (by simp +decide only [List.map, go_sem] <;> rfl) (by rfl)) ?_) | (refine zq rfl rfl (qn rfl rfl) ?_) | (refine zq rfl rfl (qx rfl rfl) ?_) | fail)
  rw [hr]
  exact Ret.data rfl rfl (.base _)
theorem mksE_I {s : ByteArray} (he : errF s = 0) : mksE s = bnds s := by rw [mksE, if_pos he]
theorem err_part {s : ByteArray} (he : errF s = 0) {a b : Nat} (hab : a ≤ b) (hb : b ≤ nch s) : errF (part s a b) = 0 := by
  obtain ⟨h1, h2⟩ := errF_sz he
  refine (errF_0 _).2 ⟨?_, part_vd h2 hab hb⟩
  have := part_size s a b
  have := pz_le s b
  omega
theorem cuts_law (s : ByteArray) (pick : Int) : FnM Tryd.prog mm24 7 [str s, .int pick] (.bool true) := by
  have i1 := boundsX_ok s
  have i2 := awake_ok
  have hlen := mksE_len s
  refine FnM.intro' [(0, str s), (1, .int pick)] 2 115 Tryd.func7 (by kernel_rfl) rfl rfl rfl rfl rfl ?_
  refine goB ?_
  refine callA (i1) ?_
  refine goB ?_
  refine ifA (fun h => ?_) (fun h => ?_)
  · refine goB ?_
    refine callA (i2) ?_
    refine goB ?_
    exact Ret.bool rfl Iff.rfl
  simp at h
  obtain ⟨he, hne⟩ := h
  have hsz := (errF_sz he).1
  have hv := (errF_sz he).2
  rw [mksE_I he] at hlen hne ⊢
  have hs : 0 < s.size := by
    rcases Nat.eq_zero_or_pos s.size with h | h
    · exact absurd (bnds_nil h) hne
    · exact h
  have hpos : 0 < (bnds s).length := List.length_pos_iff.2 hne
  obtain ⟨v, hvl, i3⟩ := withinX_ok pick (bnds s).length hpos (by omega)
  have hm : bnds s = (mI s).map (pz s) := by rw [bnds_mks hs, mks_I]
  have hvm : v < (mI s).length := by rw [hm, List.length_map] at hvl; exact hvl
  obtain ⟨a, ha⟩ : ∃ a, a = (mI s)[v] := ⟨_, rfl⟩
  have hA : a ∈ mI s := by rw [ha]; exact List.getElem_mem hvm
  have hat : nth default (bnds s) (v : Int) = pz s a := by
    rw [nth_eq hvl]
    simp only [hm, List.getElem_map]
    rw [ha]
  have hal := (mI_B hA).1
  have hps := pz_le s a
  have e1 : part s 0 a = s.extract 0 (pz s a) := rfl
  have e2 : part s a (nch s) = s.extract (pz s a) s.size := by rw [part, nch_at]
  have x1 := err_part he (Nat.zero_le a) hal
  have y1 := err_part he hal (Nat.le_refl _)
  have i4 := boundsX_ok (part s 0 a)
  have i5 := boundsX_ok (part s a (nch s))
  have cx := cut_0 hv hal
  have co := fun k hk z hz hd => cut_ord hv hal (k := k) hk (z := z) hz hd
  have ca := cut_all hv hA hs
  have b0 := bnds_0 (s := part s a (nch s))
  have hlx := mksE_len (part s 0 a)
  have hly := mksE_len (part s a (nch s))
  rw [mksE_I x1] at i4 hlx
  rw [mksE_I y1] at i5 hly
  rw [x1, e1] at i4
  rw [y1, e2] at i5
  rw [← e1] at i4
  rw [← e2] at i5
  have hYb : ∀ z ∈ bnds (part s a (nch s)), z ≤ 400 := fun z hz => by
    have := bnds_le hz
    rw [part_size, nch_at] at this; omega
  generalize bnds (part s 0 a) = X at *
  generalize bnds (part s a (nch s)) = Y at *
  rw [e1, encO_int] at i4
  rw [e2, encO_int] at i5
  refine goB ?_
  refine callA (i3) ?_
  refine goB ?_
  rw [hat]
  refine ifA (fun h3 => ?_) (fun h3 => ?_)
  · exfalso
    simp at h3
    omega
  refine goB ?_
  refine ARun.q1 rfl rfl (ql_slice_str (l := 0) (h := pz s a) rfl Tryd.underlying9 rfl (by simp [bnd, lk, go_sem, encO]) (by omega) (by omega)) ?_
  refine goB ?_
  refine callA (i4) ?_
  refine goB ?_
  refine ARun.q1 rfl rfl (ql_slice_str (l := pz s a) (h := s.size) rfl Tryd.underlying9 (by simp [bnd, lk, go_sem, encO]) rfl (by omega) (by omega)) ?_
  refine goB ?_
  refine callA (i5) ?_
  refine goB ?_
  refine ifA (fun h4 => ?_) (fun h4 => ?_)
  · simp at h4
  refine goB ?_
  generalize pz s a = T at *
  refine keA [5, 7, 8, 10, 12, 13, 1000000] ?_
  refine AWp.weaken (Wk.nil (E2 := [(5, .lst ((bnds s).map encO)), (7, .int T), (8, .lst ((X.map Int.ofNat).map AV.int)), (10, .lst ((Y.map Int.ofNat).map AV.int)), (12, .own 0 0 0 0), (13, .int 0), (1000000, .mem mm24)]) 3 1 (by simp [lk, Le.refl, encO])) ?_
  refine AWp.loopH (J := fun k : Nat => k ≤ X.length) (fun k => [(12, .own 0 k 0 k), (13, .int k)]) (fun k => [ibl ((X.take k).map Int.ofNat)]) (fun k => X.length - k) 0 (Nat.zero_le _) .wk ?_
  intro k hk
  refine goB ?_
  refine ifA (fun h5 => ?_) (fun h5 => ?_)
  · have h5 := of_decide_eq_true h5
    have hk2 : k < X.length := by omega
    have hg : nth 0 (X.map Int.ofNat) (k : Int) = Int.ofNat X[k] := by rw [nth_eq (by simpa using hk2)]; simp
    have hx : (X.take (k + 1)).map Int.ofNat = (X.take k).map Int.ofNat ++ [Int.ofNat X[k]] := by rw [List.take_succ_eq_append_getElem hk2, List.map_append]; rfl
    refine goB ?_
    rw [hg]
    refine goB ?_
    refine ARun.p1 rfl rfl (pl_append (b := 0) (tot := k) (es := [.int (Int.ofNat X[k])]) (by simp +decide only [go_sem] <;> rfl) (by simp +decide only [go_sem] <;> rfl) rfl (by simp; omega) Tryd.underlying37 el3d rfl rfl (by simp) (fun e he => by rw [List.mem_singleton] at he; subst he; exact ⟨rfl, rfl⟩) (by simp; omega) (by simp; omega)) ?_
    have hb2 : ((X.take k).map Int.ofNat).map AV.int ++ [AV.int (Int.ofNat X[k])] = ((X.take (k + 1)).map Int.ofNat).map AV.int := by rw [hx, List.map_append]; rfl
    rw [hb2]
    refine goB ?_
    rw [wrap_succ (by omega)]
    exact ⟨k + 1, by omega, by omega, .wk⟩
  have h5 := of_decide_eq_false h5
  obtain rfl : k = X.length := by omega
  rw [List.take_length]
  refine goB ?_
  refine keA [5, 7, 10, 12, 14, 1000000] ?_
  have hj0 : joinB X Y T 0 = X := by simp [joinB]
  have hjl : ∀ k, (joinB X Y T k).length ≤ 4000 := fun k => by
    simp only [joinB, List.length_append, List.length_map, List.length_drop, List.length_take]
    split <;> omega
  refine AWp.loopH (J := fun k : Nat => k ≤ Y.length) (fun k => [(12, .own 0 (joinB X Y T k).length 0 (joinB X Y T k).length), (14, .int k)]) (fun k => [ibl ((joinB X Y T k).map Int.ofNat)]) (fun k => Y.length - k) 0 (Nat.zero_le _) (by rw [hj0]; exact .wk) ?_
  intro k hk
  have hll := hjl k
  refine goB ?_
  refine ifA (fun h6 => ?_) (fun h6 => ?_)
  · have h6 := of_decide_eq_true h6
    have hk2 : k < Y.length := by omega
    have hg : nth 0 (Y.map Int.ofNat) (k : Int) = Int.ofNat Y[k] := by rw [nth_eq (by simpa using hk2)]; simp
    have co := co k hk2
    have hYs : (joinB X Y T (k + 1)) = if (if X = [] then 0 else 1) ≤ k then joinB X Y T k ++ [T + Y[k]] else joinB X Y T k := by
      simp only [joinB]
      generalize hd : (if X = [] then 0 else 1) = d
      have hd1 : d ≤ 1 := by rw [← hd]; split <;> omega
      rw [List.take_succ_eq_append_getElem hk2]
      by_cases q : d ≤ k
      · rw [if_pos q, List.drop_append_of_le_length (by simp; omega), List.map_append, List.append_assoc]; rfl
      · obtain rfl : k = 0 := by omega
        obtain rfl : d = 1 := by omega
        rw [if_neg q]; simp
    have hcond : ((joinB X Y T k).length = 0 ∨ aA ((joinB X Y T k).map Int.ofNat) ((joinB X Y T k).length - 1) ≠ Int.ofNat Y[k] + T) ↔ (if X = [] then 0 else 1) ≤ k := by
      have hla : ∀ h : 0 < (joinB X Y T k).length, aA ((joinB X Y T k).map Int.ofNat) ((joinB X Y T k).length - 1) = Int.ofNat ((joinB X Y T k)[(joinB X Y T k).length - 1]) := fun h => by
        unfold aA
        rw [List.getElem?_map, List.getElem?_eq_getElem (by omega)]; rfl
      constructor
      · intro hc
        by_cases hX : X = []
        · rw [if_pos hX]; omega
        · rw [if_neg hX]
          rcases Nat.eq_zero_or_pos k with rfl | hk0
          · exfalso
            have hXp : 0 < X.length := List.length_pos_iff.2 hX
            obtain ⟨_, cx⟩ := cx hX
            rcases hc with hc | hc
            · rw [hj0] at hc; omega
            · rw [hla (by rw [hj0]; exact hXp)] at hc
              simp only [hj0] at hc
              rw [List.getElem?_eq_getElem (by omega)] at cx
              injection cx with cx
              rw [cx, b0 (by omega)] at hc
              exact hc (by simp)
          · omega
      · intro hd
        rcases Nat.eq_zero_or_pos (joinB X Y T k).length with h0 | h0
        · exact .inl h0
        · right
          rw [hla h0]
          have hd2 : X = [] ∨ 1 ≤ k := by
            by_cases hX : X = []
            · exact .inl hX
            · rw [if_neg hX] at hd; exact .inr hd
          have := co _ (List.getElem_mem (show (joinB X Y T k).length - 1 < (joinB X Y T k).length by omega)) hd2
          simp only [Int.ofNat_eq_natCast]
          omega
    generalize joinB X Y T k = L at *
    have hmap : (L.map Int.ofNat).length = L.length := List.length_map ..
    refine goB ?_
    refine drA (k := 18) follows (hr := ?_)
    refine goB ?_
    rw [wrap_id (by omega) (by omega)]
    refine gqA (h := fun hg => ql_ixN (b := 0) (l := L.map Int.ofNat) (by simp +decide only [go_sem] <;> rfl) (by simp +decide only [go_sem] <;> rfl) rfl hmap (by simp [gc, allL] at hg; have := List.length_pos_iff.2 hg; omega) (by omega)) (hr := ?_)
    refine goB ?_
    refine ARun.gl (v := .int (aA (L.map Int.ofNat) (L.length - 1))) rfl rfl (by simp +decide only [go_sem] <;> rfl) (fun hg => ql_loadN (b := 0) (v := aA (L.map Int.ofNat) (L.length - 1)) (by simp +decide only [go_sem] <;> rfl) rfl hmap (by
      have hg' : 0 < L.length := by simp [gc, allL] at hg; exact List.length_pos_iff.2 hg
      rw [show ((L.length : Int) - 1).toNat = L.length - 1 by omega]
      exact aA_e (by omega))) ?_
    refine goB ?_
    refine gqA (h := fun hg => ql_idxI (l := Y.map Int.ofNat) (by simp +decide only [go_sem] <;> rfl) (by simp +decide only [go_sem] <;> rfl) Tryd.underlying37 (by omega) (by simp; omega) (by kernel_rfl)) (hr := ?_)
    refine goB ?_
    have hyb := hYb _ (List.getElem_mem hk2)
    have hwr : IntKind.i64.wrap (Int.ofNat Y[k] + (T : Int)) = Int.ofNat Y[k] + T := by
      simp only [Int.ofNat_eq_natCast]
      rw [wrap_id (by omega) (by omega)]
    rw [hg, hwr]
    refine keA [5, 7, 10, 12, 14, 99, 1000000] ?_
    refine ifA (fun hq => ?_) (fun hq => ?_)
    · have hd : (if X = [] then 0 else 1) ≤ k := hcond.1 (by
        simp only [Bool.cond_eq_ite, Bool.if_true_left, Bool.or_eq_true, decide_eq_true_eq, bne_iff_ne] at hq
        rcases hq with hq | hq
        · exact .inl (by omega)
        · exact .inr hq)
      rw [if_pos hd] at hYs
      refine goB ?_
      rw [hg, hwr]
      refine goB ?_
      refine ARun.p1 rfl rfl (pl_append (b := 0) (tot := L.length) (es := [.int (Int.ofNat Y[k] + T)]) (by simp +decide only [go_sem] <;> rfl) (by simp +decide only [go_sem] <;> rfl) rfl (by simp) Tryd.underlying37 el3d rfl rfl (by simp) (fun e he => by rw [List.mem_singleton] at he; subst he; exact ⟨rfl, rfl⟩) (by simp; omega) (by simp; omega)) ?_
      have hb2 : (L.map Int.ofNat).map AV.int ++ [AV.int (Int.ofNat Y[k] + T)] = ((L ++ [T + Y[k]]).map Int.ofNat).map AV.int := by
        rw [List.map_append, List.map_append]
        congr 1
        show [AV.int _] = [AV.int _]
        congr 2
        simp only [Int.ofNat_eq_natCast]
        omega
      rw [hb2]
      refine goB ?_
      rw [wrap_succ (by omega)]
      exact ⟨k + 1, by omega, by omega, by rw [hYs, List.length_append]; exact .wk⟩
    · have hd : ¬ (if X = [] then 0 else 1) ≤ k := fun hd => by
        have := hcond.2 hd
        simp only [Bool.cond_eq_ite, Bool.if_true_left, Bool.or_eq_false_iff, decide_eq_false_iff_not, decide_eq_true_eq, bne_eq_false_iff_eq] at hq
        rcases this with h | h
        · exact hq.1 (by omega)
        · exact h hq.2
      rw [if_neg hd] at hYs
      refine goB ?_
      rw [wrap_succ (by omega)]
      exact ⟨k + 1, by omega, by omega, by rw [hYs]; exact .wk⟩
  have h6 := of_decide_eq_false h6
  obtain rfl : k = Y.length := by omega
  rw [ca]
  rw [encO_int]
  have i9 := eqInts_ok ((bnds s).map Int.ofNat) ((bnds s).map Int.ofNat) (by rw [List.length_map]; omega) (by rw [List.length_map]; omega)
  refine goB ?_
  refine ARun.q1 rfl rfl (ql_callM (args := [.lst (((bnds s).map Int.ofNat).map AV.int), .lst (((bnds s).map Int.ofNat).map AV.int)]) rfl (by simp +decide only [go_sem] <;> rfl) (by simp +decide only [go_sem, List.map, LendL]; exact ⟨.ownM rfl (List.length_map ..) fun x _ => Pu_cI x, .pu (Pu_intL _)⟩) (.base _) i9) ?_
  refine goB ?_
  refine gcallA (i := fun hg => i2) (hr := ?_)
  refine goB ?_
  exact Ret.bool rfl (by simp)
end Go.Ab
