/- Part of the proof. -/
import Derived.Test.YtdgfgadmcahnlaaDoorTD
set_option linter.unusedSimpArgs false
set_option linter.unusedVariables false
set_option maxHeartbeats 4000000
namespace Go.Ab
open Go Go.Ab Go.Proofs Go.Ab.Ty

/-! ### boundaries, walked -/
attribute [go_sem] encO
theorem el3d : elI Tryd.prog 3 1 8 = true := by kernel_rfl
theorem el9d : elI Tryd.prog 9 1 16 = true := by kernel_rfl
theorem sz3d : szTy Tryd.prog 3 = some 1 := by kernel_rfl
theorem sz9d : szTy Tryd.prog 9 = some 1 := by kernel_rfl
theorem dec_pz (s : ByteArray) (k : Nat) (h : pz s k < s.size) : pz s k + (Utf8.decode s (pz s k)).2 = pz s (k + 1) := by rw [pz, if_pos h]
theorem len_clN (s : ByteArray) (k : Nat) (x : AV) : (List.map encN (clL s k) ++ [x]).length = k + 1 := by simp [clL_len]
attribute [go_sem] len_clN beq_self_eq_true
theorem boundaries_ok (s : ByteArray) (hs : s.size ≤ 900000) : Fn Tryd.prog 77 [str s] (.lst ((bnds s).map encO)) := by
  have jo := fun (k : Nat) (h : 1 ≤ k) (h2 : k < 900001) => joins_ok (clL s (k + 1)) (by rw [clL_len]; omega) k ⟨h, by rw [clL_len]; omega⟩
  have co := fun k => class_ok (rnA s k) (by have := rn_rg s k; omega)
  refine Fn.intro' [(0, str s)] 1 43 Tryd.func77 (by kernel_rfl) rfl rfl rfl rfl rfl ?_
  refine goB ?_
  refine ARun.p1 rfl rfl (pl_rangeStr (by simp +decide only [go_sem] <;> rfl) Tryd.underlying9) ?_
  refine goB ?_
  refine AWp.weaken (Wk.nil (E2 := [(0, str s), (2, .base (.slice none 0 0)), (3, .own 1 0 0 0), (4, .base (.slice none 0 0)), (8, .iterv 0)]) 9 1 (by simp +decide [lk, putE, cut, Le.refl])) ?_
  refine AWp.loop (J := fun k : Nat => ∀ j, j < k → pz s j < s.size)
    (fun k => ⟨[(0, str s), (2, .base (.slice none 0 0)), (3, .own 1 k 0 k), (4, .own 2 (bF s k).length 0 (bF s k).length), (8, .iterv 0)], [iterB s (pz s k), ⟨9, 1, (clL s k).map encN⟩, ⟨3, 1, (bF s k).map encO⟩]⟩) (fun k => s.size - pz s k) 0 (fun j h => by omega) (.nil 3 1 (by simp [List.forall_mem_cons, lk, Le.refl, bF])) ?_
  intro k hk
  refine goB ?_
  have hH : (clL s (k + 1)).map encN = (clL s k).map encN ++ [str (nm (cls s k))] := by rw [clL, List.map_append]; rfl
  by_cases h : pz s k < s.size
  · have hr := rn_rg s k
    have hk1 : ∀ j, j < k + 1 → pz s j < s.size := fun j hj => by
      by_cases e : j < k
      · exact hk j e
      · obtain rfl : j = k := by omega
        exact h
    have hk2 : k < 900001 := by have := pz_ge s k; omega
    refine ARun.p1 rfl rfl (pl_nextStr (by simp +decide only [go_sem] <;> rfl) rfl h) ?_
    refine goB ?_
    refine ifT ?_
    refine goB ?_
    rw [dec_pz s k h, show ((Utf8.decode s (pz s k)).1 : Int) = rnA s k from rfl, wrap_id (by omega) (by omega)]
    refine goB ?_
    refine callA ((co k)) ?_
    refine goB ?_
    refine ARun.p1 rfl rfl (pl_append (b := 1) (tot := k) (es := [str (nm (cls s k))]) (by simp +decide only [go_sem] <;> rfl) (by simp +decide only [go_sem] <;> rfl) rfl (by simp [clL_len]) Tryd.underlying25 el9d rfl rfl (by simp) (fun e he => by rw [List.mem_singleton] at he; subst he; exact ⟨rfl, rfl⟩) (by simp; omega) (by simp; omega)) ?_
    refine goB ?_
    rw [← hH, wrap_id (by omega) (by omega), show ((k + 1 : Nat) : Int) - 1 = (k : Int) by omega]
    refine ARun.gl rfl rfl (by simp +decide only [go_sem] <;> rfl) (fun hg => ql_callM (args := [.lst ((clL s (k + 1)).map encN), .int k]) rfl (by simp +decide only [go_sem] <;> rfl) (by simp +decide only [go_sem, List.map, LendL]; exact ⟨.ownM rfl (clL_len _ _) fun x _ => Pu_encN x, .pu (.base _)⟩) (.base _) (jo k (by simp [gc, allL] at hg; omega) hk2)) ?_
    rw [joins_clL s (k + 1) k (by omega)]
    refine goB ?_
    have hbl := bF_len s k
    refine ifA (fun h3 => ?_) (fun h3 => ?_)
    · have e : bF s (k + 1) = bF s k ++ [pz s k] := by rw [bF, if_pos (by cases hj : joinsS (cls s) k <;> simp [hj] at h3 ⊢ <;> omega)]
      have e2 : (bF s (k + 1)).map encO = (bF s k).map encO ++ [.int (pz s k)] := by rw [e, List.map_append]; rfl
      have e3 : (bF s (k + 1)).length = (bF s k).length + 1 := by rw [e, List.length_append]; rfl
      refine goB ?_
      refine ARun.p1 rfl rfl (pl_append (b := 2) (tot := (bF s k).length) (es := [.int (pz s k)]) (by simp +decide only [go_sem] <;> rfl) (by simp +decide only [go_sem] <;> rfl) rfl (by simp) Tryd.underlying37 el3d rfl rfl (by simp) (fun e he => by rw [List.mem_singleton] at he; subst he; exact ⟨rfl, rfl⟩) (by simp; omega) (by simp; omega)) ?_
      refine goB ?_
      rw [← e2, ← e3]
      exact ⟨k + 1, hk1, by have := pz_lt h; omega, .wk⟩
    · have e : bF s (k + 1) = bF s k := by rw [bF, if_neg (by cases hj : joinsS (cls s) k <;> simp [hj] at h3 ⊢ <;> omega)]
      refine goB ?_
      rw [← e]
      exact ⟨k + 1, hk1, by have := pz_lt h; omega, .wk⟩
  · refine ARun.q1 rfl rfl (ql_nextEnd (by simp +decide only [go_sem] <;> rfl) rfl (by omega)) ?_
    have hnl := nch_le s
    have hn : k = nch s := (nch_eq hk (by omega)).symm
    refine goB ?_
    refine ifF ?_
    refine goB ?_
    refine ifA (fun h3 => ?_) (fun h3 => ?_)
    · simp at h3
      have hbl := bF_len s k
      have e2 : (bF s k ++ [s.size]).map encO = (bF s k).map encO ++ [.int s.size] := by rw [List.map_append]; rfl
      refine goB ?_
      refine ARun.p1 rfl rfl (pl_append (b := 2) (tot := (bF s k).length) (es := [.int s.size]) (by simp +decide only [go_sem] <;> rfl) (by simp +decide only [go_sem] <;> rfl) rfl (by simp) Tryd.underlying37 el3d rfl rfl (by simp) (fun e he => by rw [List.mem_singleton] at he; subst he; exact ⟨rfl, rfl⟩) (by simp; omega) (by simp; omega)) ?_
      rw [← e2]
      refine goB ?_
      exact Ret.pub rfl (by rw [bnds, if_pos h3, ← hn]; exact Pub.ownM (by decide) rfl (by simp) fun x _ => Pu_encO x)
    · have h4 : ¬ 0 < s.size := by have := of_decide_eq_false h3; omega
      refine goB ?_
      have e0 : bF s k = [] := by
        rw [hn]
        have : nch s = 0 := nch_eq (fun j h => by omega) (Nat.le_of_not_lt fun h => h4 (by omega))
        rw [this]; rfl
      exact Ret.pub rfl (by rw [bnds, if_neg h4, e0]; exact Pub.ownM (l := []) (by decide) rfl rfl fun x _ => Pu_encO x)
theorem toL_nil (s : ByteArray) : (s.toList == (⟨#[]⟩ : ByteArray).toList) = decide (s.size = 0) := by
  rw [ba_toList, ba_toList, Bool.eq_iff_iff, beq_iff_eq, decide_eq_true_iff]
  show s.data.toList = [] ↔ s.data.size = 0
  rw [← Array.length_toList, List.length_eq_zero_iff]
@[simp] theorem Pu_encOL (l : List Nat) : Pu (.lst (l.map encO)) := .lst fun e he c hc => by
  obtain ⟨x, _, rfl⟩ := List.mem_map.1 he
  exact Pu_encO x c hc
attribute [go_sem] toL_nil
theorem marks_ok (s : ByteArray) (hs : s.size ≤ 900000) : Fn Tryd.prog 71 [str s] (.lst ((mks s).map encO)) := by
  have b := boundaries_ok s hs
  refine Fn.intro' [(0, str s)] 1 8 Tryd.func71 (by kernel_rfl) rfl rfl rfl rfl rfl ?_
  refine goB ?_
  refine ifA (fun h => ?_) (fun h => ?_)
  · have h := of_decide_eq_true h
    refine goB ?_
    exact Ret.data rfl (by rw [mks, if_neg (by omega)]; rfl) (Pu_encOL _)
  have h := of_decide_eq_false h
  refine goB ?_
  refine callA (b) ?_
  refine goB ?_
  exact Ret.data rfl (by rw [mks, if_pos (by omega), bnds, if_pos (by omega)]; rfl) (Pu_encOL _)
end Go.Ab
set_option maxHeartbeats 4000000
namespace Go.Ab
open Go Go.Ab Go.Proofs Go.Ab.Ty

/-! ### the document's characters and boundaries -/
def pcd (s : ByteArray) (p n : Nat) : Nat → Nat
  | 0 => 0
  | 1 => if n = 1 then bt s p else bt s p % 2 ^ (7 - n)
  | j + 2 => pcd s p n (j + 1) * 64 + bt s (p + (j + 1)) % 64
theorem pcd_cd (s : ByteArray) (p n : Nat) (h : 1 ≤ n ∧ n ≤ 4) : pcd s p n n = cd s p n := by
  obtain rfl | rfl | rfl | rfl : n = 1 ∨ n = 2 ∨ n = 3 ∨ n = 4 := by omega
  · rfl
  · simp [pcd, cd]
  · simp [pcd, cd]; omega
  · simp [pcd, cd]; omega
theorem pcd_lt (s : ByteArray) (p n : Nat) : ∀ j, pcd s p n (j + 1) < 256 * 64 ^ j
  | 0 => by
    have h := bt_lt s p
    show (if n = 1 then bt s p else bt s p % 2 ^ (7 - n)) < 256 * 1
    have := Nat.mod_le (bt s p) (2 ^ (7 - n))
    split <;> omega
  | j + 1 => by
    have ih := pcd_lt s p n j
    show pcd s p n (j + 1) * 64 + bt s (p + (j + 1)) % 64 < 256 * 64 ^ (j + 1)
    rw [Nat.pow_succ]
    generalize 64 ^ j = q at *
    omega
theorem pcd_l3 (s : ByteArray) (p n j : Nat) (h1 : 1 ≤ j) (h : j ≤ 3) : pcd s p n j < 2000000 := by
  obtain rfl | rfl | rfl : j = 1 ∨ j = 2 ∨ j = 3 := by omega
  · exact Nat.lt_trans (pcd_lt s p n 0) (by decide)
  · exact Nat.lt_trans (pcd_lt s p n 1) (by decide)
  · exact Nat.lt_trans (pcd_lt s p n 2) (by decide)
theorem Vd.at {s : ByteArray} (h : Vd s 0) : ∀ k, Vd s (pz s k)
  | 0 => h
  | k + 1 => by
    have ih := Vd.at h k
    rw [pz]
    split
    · rename_i hk
      obtain ⟨h1, h2⟩ := ih.nx hk
      rcases wd_dec hk with ⟨e1, _⟩ | ⟨_, e2, _⟩
      · omega
      · rw [e2]; exact h2
    · exact ih
theorem Vd.dec {s : ByteArray} (h : Vd s 0) {k : Nat} (hk : pz s k < s.size) : 1 ≤ wd s (pz s k) ∧ wd s (pz s k) ≤ 4 ∧ pz s k + wd s (pz s k) = pz s (k + 1) ∧ pz s k + wd s (pz s k) ≤ s.size ∧ rnA s k = (cd s (pz s k) (wd s (pz s k)) : Nat) := by
  have h1 := ((Vd.at h k).nx hk).1
  have h2 := wd_le s (pz s k)
  rcases wd_dec hk with ⟨e1, _⟩ | ⟨_, e2, _⟩
  · omega
  · refine ⟨h1, wd_four s _, by rw [pz, if_pos hk, e2], by omega, ?_⟩
    rw [rnA, e2]
theorem and_mask (b n : Nat) (hb : b < 256) (hn : n ≤ 8) : IntKind.i64.wrap ((BitVec.ofInt 64 (b : Int) &&& BitVec.ofInt 64 ((2 ^ n - 1 : Nat) : Int)).toNat : Int) = ((b % 2 ^ n : Nat) : Int) := by
  have h2 : (2 : Nat) ^ n ≤ 2 ^ 8 := Nat.pow_le_pow_right (by decide) hn
  have e : (BitVec.ofInt 64 (b : Int) &&& BitVec.ofInt 64 ((2 ^ n - 1 : Nat) : Int)).toNat = b % 2 ^ n := by
    rw [BitVec.toNat_and, BitVec.ofInt_natCast, BitVec.ofInt_natCast, BitVec.toNat_ofNat, BitVec.toNat_ofNat, Nat.mod_eq_of_lt (by omega), Nat.mod_eq_of_lt (a := 2 ^ n - 1) (by omega), Nat.and_two_pow_sub_one_eq_mod]
  have h3 : b % 2 ^ n ≤ b := Nat.mod_le _ _
  rw [e]; exact wrap_id (by omega) (by omega)
theorem or_mask (c b : Nat) (hc : c < 2000000) (hb : b < 64) : IntKind.i64.wrap ((BitVec.ofInt 64 ((c : Int) * 64) ||| BitVec.ofInt 64 (b : Int)).toNat : Int) = ((c * 64 + b : Nat) : Int) := by
  have e : (BitVec.ofInt 64 ((c : Int) * 64) ||| BitVec.ofInt 64 (b : Int)).toNat = c * 64 + b := by
    rw [show (c : Int) * 64 = ((c * 64 : Nat) : Int) by omega, BitVec.toNat_or, BitVec.ofInt_natCast, BitVec.ofInt_natCast, BitVec.toNat_ofNat, BitVec.toNat_ofNat, Nat.mod_eq_of_lt (by omega), Nat.mod_eq_of_lt (a := b) (by omega), Nat.mul_comm c 64]
    exact (Nat.two_pow_add_eq_or_of_lt (i := 6) hb c).symm
  rw [e]; exact wrap_id (by omega) (by omega)
theorem bits_step (c b : Nat) (hc : c < 2000000) (hb : b < 256) : IntKind.i64.wrap ((BitVec.ofInt 64 (IntKind.i64.wrap ((c : Int) * 2 ^ min (Int.toNat 6) 64)) ||| BitVec.ofInt 64 (IntKind.i64.wrap ((BitVec.ofInt 64 (IntKind.i64.wrap (b : Int)) &&& BitVec.ofInt 64 63).toNat : Int))).toNat : Int) = ((c * 64 + b % 64 : Nat) : Int) := by
  have e2 : IntKind.i64.wrap ((c : Int) * 2 ^ min (Int.toNat 6) 64) = (c : Int) * 64 := wrap_id (by show _ ≤ (c : Int) * 64; omega) (by show (c : Int) * 64 ≤ _; omega)
  have e3 := and_mask b 6 hb (by decide)
  rw [e2, wrap_id (x := (b : Int)) (by omega) (by omega), show (63 : Int) = ((2 ^ 6 - 1 : Nat) : Int) from rfl, e3]
  exact or_mask c (b % 2 ^ 6) hc (by omega)
def riL (s : ByteArray) (k : Nat) : List Int := (List.range k).map (rnA s)
def pzL (s : ByteArray) (k : Nat) : List Nat := (List.range k).map (pz s)
theorem riL_s (s : ByteArray) (k : Nat) : (riL s (k + 1)).map AV.int = (riL s k).map AV.int ++ [.int (rnA s k)] := by simp [riL, List.range_succ]
theorem pzL_s (s : ByteArray) (k : Nat) : (pzL s (k + 1)).map encO = (pzL s k).map encO ++ [.int (pz s k)] := by simp [pzL, List.range_succ, encO]
theorem riL_len (s : ByteArray) (k : Nat) : (riL s k).length = k := by simp [riL]
theorem pzL_len (s : ByteArray) (k : Nat) : (pzL s k).length = k := by simp [pzL]
theorem ql_conv58 {H : List ABlk} {ρ : Operand → AV} {x : Operand} {n : Int} (hx : ρ x = .base (.int .u8 n)) : QL Tryd.prog H ρ (.convert 5 3 x) (.base (.int .i64 (IntKind.i64.wrap n))) := ql_fun (by simp +decide only [go_sem, hx])
theorem Pu_cI (x : Int) : ∀ c ∈ (AV.int x).cells, Pu c := fun c hc => by simp only [AV.cells, List.mem_singleton] at hc; subst hc; exact .base _
theorem chars_ok (s : ByteArray) (hs : s.size ≤ 900000) (hv : Vd s 0) : Fn Tryd.prog 78 [str s] (.tup [.lst ((riL s (nch s)).map AV.int), .lst ((pzL s (nch s)).map encO)]) := by
  have w : ∀ k, Fn Tryd.prog 80 [str (s.extract (pz s k) s.size)] (.int (wd s (pz s k))) := fun k => by
    have := width_ok (s.extract (pz s k) s.size) (by rw [ByteArray.size_extract]; omega)
    rwa [wd_ext s (pz s k) (pz_le s k)] at this
  refine Fn.intro' [(0, str s)] 1 58 Tryd.func78 (by kernel_rfl) rfl rfl rfl rfl rfl ?_
  refine goB ?_
  refine AWp.weaken (Wk.nil (E2 := [(0, str s), (2, .base (.slice none 0 0)), (3, .base (.slice none 0 0)), (4, .own 0 0 0 0), (5, .base (.slice none 0 0)), (6, .int 0)]) 3 1 (by simp [lk, Le.refl])) ?_
  refine AWp.loop (J := fun k : Nat => ∀ j, j < k → pz s j < s.size)
    (fun k => ⟨[(0, str s), (2, .base (.slice none 0 0)), (3, .base (.slice none 0 0)), (4, .own 0 k 0 k), (5, .own 1 k 0 k), (6, .int (pz s k))], [⟨3, 1, (riL s k).map AV.int⟩, ⟨3, 1, (pzL s k).map encO⟩]⟩) (fun k => s.size - pz s k) 0 (fun j h => by omega) (.nil 3 1 (by simp [List.forall_mem_cons, lk, Le.refl, pz])) ?_
  intro k hk
  refine goB ?_
  refine ifA (fun h => ?_) (fun h => ?_)
  · have h := of_decide_eq_true h
    obtain ⟨h1, h2, h3, h4, h5⟩ := Vd.dec hv (k := k) (by omega)
    have w1 := w k
    have hcd := pcd_cd s (pz s k) _ ⟨h1, h2⟩
    generalize wd s (pz s k) = n at *
    have hb : (s.get! (pz s k)).toNat < 256 := bt_lt s (pz s k)
    refine goB ?_
    refine ARun.q1 rfl rfl (ql_slice_str (l := pz s k) (h := s.size) rfl Tryd.underlying9 (by simp [bnd, lk, go_sem]) rfl (by omega) (by omega)) ?_
    refine goB ?_
    refine callA (w1) ?_
    refine goB ?_
    refine ARun.q1 rfl rfl (ql_index_str rfl rfl Tryd.underlying9 (by omega) (bt_get (by omega))) ?_
    refine goB ?_
    rw [wrap_id (by omega) (by omega)]
    refine keA [0, 2, 3, 4, 5, 6, 7, 8, 23] ?_
    refine AWp.joinP [(8, .int (pcd s (pz s k) n 1))] ?_ ?_
    · obtain rfl | rfl | rfl | rfl : n = 1 ∨ n = 2 ∨ n = 3 ∨ n = 4 := by omega
      · refine ifF ?_
        refine goB ?_
        exact .wk
      · refine ifT ?_
        refine goB ?_
        rw [show IntKind.i64.wrap (IntKind.i64.wrap (1 * 2 ^ min (IntKind.i64.wrap (7 - ((2 : Nat) : Int))).toNat 64) - 1) = ((2 ^ 5 - 1 : Nat) : Int) from by decide]
        exact .env' (by simp +decide only [go_sem]; exact Le.of_eq (congrArg (fun z => AV.base (.int .i64 z)) (and_mask _ 5 hb (by decide))))
      · refine ifT ?_
        refine goB ?_
        rw [show IntKind.i64.wrap (IntKind.i64.wrap (1 * 2 ^ min (IntKind.i64.wrap (7 - ((3 : Nat) : Int))).toNat 64) - 1) = ((2 ^ 4 - 1 : Nat) : Int) from by decide]
        exact .env' (by simp +decide only [go_sem]; exact Le.of_eq (congrArg (fun z => AV.base (.int .i64 z)) (and_mask _ 4 hb (by decide))))
      · refine ifT ?_
        refine goB ?_
        rw [show IntKind.i64.wrap (IntKind.i64.wrap (1 * 2 ^ min (IntKind.i64.wrap (7 - ((4 : Nat) : Int))).toNat 64) - 1) = ((2 ^ 3 - 1 : Nat) : Int) from by decide]
        exact .env' (by simp +decide only [go_sem]; exact Le.of_eq (congrArg (fun z => AV.base (.int .i64 z)) (and_mask _ 3 hb (by decide))))
    refine goB ?_
    refine keA [0, 2, 3, 4, 5, 6, 7, 8, 9] ?_
    refine AWp.loopP (J := fun j : Nat => 1 ≤ j ∧ j ≤ n) (fun j => [(9, .int j), (8, .int (pcd s (pz s k) n j))]) (fun j => n - j) 1 ⟨Nat.le_refl _, h1⟩ .wk ?_
    rintro j ⟨hj1, hj2⟩
    refine goB ?_
    refine ifA (fun hj => ?_) (fun hj => ?_)
    · have hj := of_decide_eq_true hj
      have hc := pcd_l3 s (pz s k) n j hj1 (by omega)
      have hs1 : pcd s (pz s k) n (j + 1) = pcd s (pz s k) n j * 64 + bt s (pz s k + j) % 64 := by
        obtain ⟨i, rfl⟩ : ∃ i, j = i + 1 := ⟨j - 1, by omega⟩
        rw [pcd]
      obtain ⟨x, hx, hx2⟩ : ∃ x, s[pz s k + j]? = some x ∧ bt s (pz s k + j) = x.toNat := ⟨_, bt_get (by omega), rfl⟩
      have hst := bits_step _ _ hc x.toNat_lt
      rw [hx2] at hs1
      rw [← hs1] at hst
      generalize pcd s (pz s k) n j = c at *
      refine goB ?_
      rw [wrap_id (by omega) (by omega), show (pz s k : Int) + j = ((pz s k + j : Nat) : Int) by omega]
      refine ARun.q1 rfl rfl (ql_index_str rfl rfl Tryd.underlying9 (by omega) hx) ?_
      refine ARun.q1 rfl rfl (ql_conv58 (by simp +decide only [go_sem] <;> rfl)) ?_
      refine goB ?_
      exact ⟨j + 1, ⟨by omega, by omega⟩, by omega, .env' (by simp +decide only [go_sem]; exact ⟨Le.of_eq (congrArg (fun z => AV.base (.int .i64 z)) (wrap_succ (by omega))), Le.of_eq (congrArg (fun z => AV.base (.int .i64 z)) hst)⟩)⟩
    have hj := of_decide_eq_false hj
    obtain rfl : j = n := by omega
    rw [hcd, ← h5]
    have hk1 : ∀ j, j < k + 1 → pz s j < s.size := fun j hj => by
      by_cases e : j < k
      · exact hk j e
      · obtain rfl : j = k := by omega
        omega
    have hkl := pz_ge s k
    refine goB ?_
    refine ARun.p1 rfl rfl (pl_append (b := 0) (tot := k) (es := [.int (rnA s k)]) (by simp +decide only [go_sem] <;> rfl) (by simp +decide only [go_sem] <;> rfl) rfl (by simp [riL_len]) Tryd.underlying37 el3d rfl rfl (by simp) (fun e he => by rw [List.mem_singleton] at he; subst he; exact ⟨rfl, rfl⟩) (by simp; omega) (by simp; omega)) ?_
    rw [← riL_s]
    refine goB ?_
    refine ARun.p1 rfl rfl (pl_append (b := 1) (tot := k) (es := [.int (pz s k)]) (by simp +decide only [go_sem] <;> rfl) (by simp +decide only [go_sem] <;> rfl) rfl (by simp [pzL_len]) Tryd.underlying37 el3d rfl rfl (by simp) (fun e he => by rw [List.mem_singleton] at he; subst he; exact ⟨rfl, rfl⟩) (by simp; omega) (by simp; omega)) ?_
    rw [← pzL_s]
    refine goB ?_
    rw [wrap_id (by omega) (by omega), show (pz s k : Int) + j = ((pz s (k + 1) : Nat) : Int) by omega]
    exact ⟨k + 1, hk1, by omega, .wk⟩
  have h := of_decide_eq_false h
  have hn : k = nch s := (nch_eq hk (by omega)).symm
  refine goB ?_
  exact Ret.pub rfl (by rw [← hn]; exact Pub.tup' ⟨Pub.ownM (by decide) rfl (riL_len s k) fun x _ => Pu_cI x, Pub.ownM (by decide) rfl (pzL_len s k) fun x _ => Pu_encO x, trivial⟩)
end Go.Ab
set_option maxHeartbeats 4000000
namespace Go.Ab
open Go Go.Ab Go.Proofs Go.Ab.Ty

theorem riL_get (s : ByteArray) (n k : Nat) (h : k < n) : nth 0 (riL s n) (k : Int) = rnA s k := by
  rw [nth_eq (by rw [riL_len]; exact h)]; simp [riL]
theorem pzL_get (s : ByteArray) (n k : Nat) (h : k < n) : nth default (pzL s n) (k : Int) = pz s k := by
  rw [nth_eq (by rw [pzL_len]; exact h)]; simp [pzL]
theorem Pu_riL (s : ByteArray) (n : Nat) : Pu (.lst ((riL s n).map AV.int)) := .lst fun e he c hc => by
  obtain ⟨x, _, rfl⟩ := List.mem_map.1 he
  exact Pu_cI x c hc
theorem bounds_ok (s : ByteArray) (hs : s.size ≤ 900000) (hv : Vd s 0) : Fn Tryd.prog 81 [str s] (.lst ((mks s).map encO)) := by
  have hc := chars_ok s hs hv
  have hp := fun (k : Nat) (h1 : 1 ≤ k) (h2 : k < nch s) => parted_ok (riL s (nch s)) (by rw [riL_len]; have := nch_le s; omega) (fun x hx => by
    simp only [riL, List.mem_map] at hx
    obtain ⟨i, _, rfl⟩ := hx
    have := rn_rg s i; omega) k ⟨h1, by rw [riL_len]; exact h2⟩
  have hnl := nch_le s
  have hb1 : bF s 1 = [0] := by simp [bF, pz]
  refine Fn.intro' [(0, str s)] 1 38 Tryd.func81 (by kernel_rfl) rfl rfl rfl rfl rfl ?_
  refine goA ?_
  refine callA (hc) ?_
  refine goA ?_
  refine ARun.p1 rfl rfl (pl_buildSlice (by decide) Tryd.underlying37 sz3d (by kernel_rfl) (by decide) (by simp +decide only [go_sem] <;> rfl) (by simp +decide only [go_sem] <;> rfl) (by rfl)) ?_
  refine goA ?_
  generalize hN : nch s = N at *
  refine AWp.loop (J := fun k : Nat => 1 ≤ k ∧ (k ≤ N ∨ k = 1))
    (fun k => ⟨[(0, str s), (2, .base (.slice none 0 0)), (3, .lst ((riL s N).map AV.int)), (4, .lst ((pzL s N).map encO)), (5, .own 0 (bF s k).length 0 (bF s k).length), (6, .int k)], [⟨3, 1, (bF s k).map encO⟩]⟩) (fun k => N - k) 1 ⟨Nat.le_refl _, .inr rfl⟩ (by rw [hb1]; exact .wk) ?_
  rintro k ⟨hk1, hk2⟩
  have hbl := bF_len s k
  refine goA ?_
  refine ifA (fun h => ?_) (fun h => ?_)
  · have h := of_decide_eq_true h
    rw [riL_len] at h
    have hpk := hp k hk1 (by omega)
    rw [joinsS_congr (g := cls s) (fun j hj => by rw [riL_get s N j (by omega)]; rfl)] at hpk
    refine goA ?_
    refine callA (hpk) ?_
    refine goA ?_
    refine ifA (fun h3 => ?_) (fun h3 => ?_)
    · have e : bF s (k + 1) = bF s k ++ [pz s k] := by rw [bF, if_pos (.inr (by simpa using h3))]
      have e2 : (bF s (k + 1)).map encO = (bF s k).map encO ++ [.int (pz s k)] := by rw [e, List.map_append]; rfl
      have e3 : (bF s (k + 1)).length = (bF s k).length + 1 := by rw [e, List.length_append]; rfl
      refine goA ?_
      refine ARun.q1 rfl rfl (ql_idxI (by simp +decide only [go_sem] <;> rfl) (by simp +decide only [go_sem] <;> rfl) Tryd.underlying37 (by omega) (by rw [pzL_len]; omega) (by kernel_rfl)) ?_
      rw [pzL_get s N k (by omega)]
      refine goA ?_
      refine bslA Tryd.underlying37 sz3d ?_
      refine goA ?_
      refine ARun.p1 rfl rfl (pl_append (b := 0) (tot := (bF s k).length) (es := [.int (pz s k)]) (by simp +decide only [go_sem] <;> rfl) (by simp +decide only [go_sem] <;> rfl) rfl (by simp) Tryd.underlying37 el3d rfl rfl (by simp) (fun e he => by rw [List.mem_singleton] at he; subst he; exact ⟨rfl, rfl⟩) (by simp; omega) (by simp; omega)) ?_
      rw [← e2]
      refine goA ?_
      rw [wrap_succ (by omega), ← e3]
      exact ⟨k + 1, ⟨by omega, by omega⟩, by omega, .wk⟩
    · have e : bF s (k + 1) = bF s k := by rw [bF, if_neg (by simp at h3; simp [h3]; omega)]
      refine goA ?_
      rw [wrap_succ (by omega), ← e]
      exact ⟨k + 1, ⟨by omega, by omega⟩, by omega, .wk⟩
  have h := of_decide_eq_false h
  rw [riL_len] at h
  refine goA ?_
  refine ifA (fun h3 => ?_) (fun h3 => ?_)
  · have h3 := of_decide_eq_true h3
    have hkN : k = N := by
      have : 0 < N := by rw [← hN]; exact nch_iff.2 (by rw [pz]; omega)
      omega
    have e2 : (bF s k ++ [s.size]).map encO = (bF s k).map encO ++ [.int s.size] := by rw [List.map_append]; rfl
    refine goA ?_
    refine bslA Tryd.underlying37 sz3d ?_
    refine goA ?_
    refine ARun.p1 rfl rfl (pl_append (b := 0) (tot := (bF s k).length) (es := [.int s.size]) (by simp +decide only [go_sem] <;> rfl) (by simp +decide only [go_sem] <;> rfl) rfl (by simp) Tryd.underlying37 el3d rfl rfl (by simp) (fun e he => by rw [List.mem_singleton] at he; subst he; exact ⟨rfl, rfl⟩) (by simp; omega) (by simp; omega)) ?_
    rw [← e2]
    refine goA ?_
    exact Ret.pub rfl (by rw [mks, if_pos (by omega), hN, ← hkN]; exact Pub.ownM (by decide) rfl (by simp) fun x _ => Pu_encO x)
  · have h3 := of_decide_eq_false h3
    have hk1 : k = 1 := by omega
    subst hk1
    rw [hb1]
    refine goA ?_
    exact Ret.pub rfl (by rw [mks, if_neg (by omega)]; exact Pub.ownM (l := [0]) (by decide) rfl rfl fun x _ => Pu_encO x)
end Go.Ab
