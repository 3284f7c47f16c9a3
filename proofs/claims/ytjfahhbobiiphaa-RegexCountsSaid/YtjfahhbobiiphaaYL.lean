/- Part of the proof. -/
import Derived.Test.YtjfahhbobiiphaaYJ
import Derived.Test.YtjfahhbobiiphaaXK
import Derived.Test.YtjfahhbobiiphaaAbN
import Derived.Test.YtjfahhbobiiphaaXE
import Derived.Test.YtjfahhbobiiphaaAbO
set_option linter.unusedSimpArgs false
set_option linter.unusedVariables false
set_option maxHeartbeats 4000000
namespace Go.Ab
open Go Go.Ab Go.Proofs Go.Ab.Ty

abbrev u6 (x : B64) : AV := .base (.int .u64 (x.toNat : Int))
theorem u6_wrap (n : Nat) : IntKind.wrap .u64 (n : Int) = ((BitVec.ofNat 64 n).toNat : Int) := by
  simp [IntKind.wrap, IntKind.signed, IntKind.bits]
@[go_sem] theorem u6_of (x : B64) : BitVec.ofInt 64 (x.toNat : Int) = (x : BitVec 64) := by
  show BitVec.ofInt 64 (x.toNat : Int) = x
  simp
@[go_sem] theorem u6_of1 : BitVec.ofInt 64 1 = (1#64 : BitVec 64) := by
  show BitVec.ofInt 64 1 = 1#64
  decide
@[go_sem] theorem u6_w (x : B64) : IntKind.wrap .u64 (x.toNat : Int) = (x.toNat : Int) := by
  rw [u6_wrap, BitVec.ofNat_toNat]; simp
@[go_sem] theorem u6_and (x y : B64) : @HAnd.hAnd (BitVec 64) (BitVec 64) (BitVec 64) (@instHAndOfAndOp (BitVec (IntKind.bits .u64)) (@BitVec.instAndOp (IntKind.bits .u64))) x y = x &&& y := rfl
@[go_sem] theorem u6_or (x y : B64) : @HOr.hOr (BitVec 64) (BitVec 64) (BitVec 64) (@instHOrOfOrOp (BitVec (IntKind.bits .u64)) (@BitVec.instOrOp (IntKind.bits .u64))) x y = x ||| y := rfl
theorem natCast_not_neg (n : Nat) : ((n : Int) < 0) = False := by simp
attribute [go_sem] natCast_not_neg
@[go_sem] theorem u6_shl1 (n : Nat) : IntKind.wrap .u64 (1 * 2 ^ (min n 64)) = ((bt n).toNat : Int) := by
  have h : (1 * 2 ^ (min n 64) : Int) = ((2 ^ (min n 64) : Nat) : Int) := by
    rw [Int.one_mul]; simp [IntKind.bits]
  rw [h, u6_wrap]
  congr 1
  unfold bt
  rw [BitVec.toNat_shiftLeft, BitVec.toNat_ofNat]
  rcases Nat.lt_or_ge n 64 with h | h
  · rw [Nat.min_eq_left (by omega), Nat.shiftLeft_eq]; simp
  · rw [Nat.min_eq_right h, Nat.shiftLeft_eq]
    have : (2 ^ n) % 2 ^ 64 = 0 := Nat.mod_eq_zero_of_dvd (Nat.pow_dvd_pow 2 h)
    simp [this]
@[go_sem] theorem u6_shr (x : B64) (n : Nat) : Int.fdiv (x.toNat : Int) (2 ^ (min n 64)) = ((x >>> n : BitVec 64).toNat : Int) := by
  rw [BitVec.toNat_ushiftRight, Nat.shiftRight_eq_div_pow]
  have h : (2 ^ (min n 64) : Int) = ((2 ^ (min n 64) : Nat) : Int) := by simp [IntKind.bits]
  rw [h, Int.fdiv_eq_ediv_of_nonneg _ (Int.natCast_nonneg _), ← Int.natCast_ediv]
  congr 1
  rcases Nat.lt_or_ge n 64 with h | h
  · rw [Nat.min_eq_left (by omega)]
  · rw [Nat.min_eq_right h]
    have h1 := x.isLt
    rw [Nat.div_eq_of_lt h1, Nat.div_eq_of_lt (Nat.lt_of_lt_of_le h1 (Nat.pow_le_pow_right (by omega) h))]
theorem u6_bit (x : B64) (n : Nat) : ((x >>> n &&& 1#64 : BitVec 64).toNat : Int) = 1 ↔ x.getLsbD n = true := by
  rw [BitVec.getLsbD]
  have : (x >>> n &&& 1#64).toNat = (x.toNat >>> n) % 2 := by
    rw [BitVec.toNat_and, BitVec.toNat_ushiftRight]
    simp [Nat.and_one_is_mod]
  rw [this, Nat.testBit]
  generalize x.toNat >>> n = y
  rw [Nat.one_and_eq_mod_two, bne_iff_ne]
  have := Nat.mod_two_eq_zero_or_one y
  omega
@[go_sem] theorem u6_bit' (x : B64) (n : Nat) : (((x >>> n &&& 1#64 : BitVec 64).toNat : Int) == 1) = x.getLsbD n := by
  rw [Bool.eq_iff_iff, beq_iff_eq]; exact u6_bit x n
@[go_sem] theorem u6_bit2 (x : B64) (n : Nat) : decide (((x >>> n &&& 1#64 : BitVec 64).toNat : Int) = 1) = x.getLsbD n := by
  rw [Bool.eq_iff_iff, decide_eq_true_iff]; exact u6_bit x n
@[go_sem] theorem u6_nz (x : B64) : ((x.toNat : Int) != 0) = decide (x ≠ 0) := by
  rw [Bool.eq_iff_iff, bne_iff_ne, decide_eq_true_iff]
  constructor
  · rintro h rfl; exact h rfl
  · intro h e; exact h (BitVec.eq_of_toNat_eq (by simpa using e))
def encE (e : En) : AV := .agg [u6 e.fi, u6 e.la, .bool e.em]
abbrev chS (nb nf : Nat) (fi la : B64) (em : Bool) : ABlk := ⟨183, 5, [.agg [.own 1 nb 0 nb, .own 2 nf 0 nf, u6 fi, u6 la, .bool em]]⟩
abbrev chB (b : List ByteArray) : ABlk := ⟨9, 1, b.map str⟩
abbrev chF (f : List B64) : ABlk := ⟨164, 1, f.map u6⟩
attribute [go_sem] List.length_map beq_self_eq_true
theorem lnk_get' (fr to : B64) (f : List B64) (i : Nat) (h : i < f.length) : (lnk fr to f)[i]'(by rw [lnk_len]; exact h) = if fr.getLsbD i then f[i] ||| to else f[i] := by
  simp [lnk]
def lnkK (fr to : B64) (f : List B64) (k : Nat) : List B64 := (lnk fr to f).take k ++ f.drop k
theorem lnkK_len (fr to : B64) (f : List B64) (k : Nat) (h : k ≤ f.length) : (lnkK fr to f k).length = f.length := by
  unfold lnkK; rw [List.length_append, List.length_take, List.length_drop, lnk_len]; omega
theorem lnkK_0 (fr to : B64) (f : List B64) : lnkK fr to f 0 = f := by simp [lnkK]
theorem lnkK_all (fr to : B64) (f : List B64) : lnkK fr to f f.length = lnk fr to f := by
  unfold lnkK; rw [List.take_of_length_le (by rw [lnk_len]; exact Nat.le_refl _)]; simp
theorem lnkK_get (fr to : B64) (f : List B64) (k : Nat) (h : k < f.length) : (lnkK fr to f k)[k]? = some f[k] := by
  unfold lnkK
  rw [List.getElem?_append_right (by rw [List.length_take, lnk_len]; omega), List.length_take, lnk_len, Nat.min_eq_left (by omega), Nat.sub_self, List.getElem?_drop, Nat.add_zero, List.getElem?_eq_getElem h]
theorem lnkK_s (fr to : B64) (f : List B64) (k : Nat) (h : k < f.length) : lnkK fr to f (k + 1) = if fr.getLsbD k then (lnkK fr to f k).set k (f[k] ||| to) else lnkK fr to f k := by
  have h2 : k < (lnk fr to f).length := by rw [lnk_len]; exact h
  unfold lnkK
  rw [List.take_succ_eq_append_getElem h2, lnk_get' fr to f k h, List.drop_eq_getElem_cons h]
  split
  · rw [List.set_append_right _ _ (by rw [List.length_take, lnk_len]; omega), List.length_take, lnk_len, Nat.min_eq_left (by omega), Nat.sub_self, List.set_cons_zero]; simp
  · simp
theorem link_ok (nb : Nat) (fi la : B64) (em : Bool) (b : List ByteArray) (f : List B64) (hf : f.length ≤ 1000) (fr to : B64) : FnH Try.prog 160 [.ptr 0 1 0 0, u6 fr, u6 to] [chS nb f.length fi la em, chB b, chF f] (.tup []) [chS nb f.length fi la em, chB b, chF (lnk fr to f)] := by
  refine FnH.intro' [(0, .ptr 0 1 0 0), (1, u6 fr), (2, u6 to)] 3 31 3 Try.func160 (by kernel_rfl) rfl rfl rfl rfl rfl rfl ?_
  refine goD ?_
  refine AWp.loopH (J := fun k : Nat => k ≤ f.length) (fun k => [(12, .int k)]) (fun k => [chS nb f.length fi la em, chB b, chF (lnkK fr to f k)]) (fun k => f.length - k) 0 (Nat.zero_le _) (by rw [lnkK_0]; exact .wk) ?_
  rintro k hk
  have hlen := lnkK_len fr to f k hk
  refine goD ?_
  refine ifA (fun hc => ?_) (fun hc => ?_)
  · simp at hc
    refine goD ?_
    refine ifA (fun hb => ?_) (fun hb => ?_)
    · refine goD ?_
      rw [nth_eq (by omega), show (lnkK fr to f k)[k]'(by omega) = f[k] from by
        have := lnkK_get fr to f k hc
        rw [List.getElem?_eq_getElem (by omega)] at this; injection this]
      refine ARun.p1 rfl rfl (pl_store_own (l := lnkK fr to f k) (f := u6) (f[k] ||| to) (by simp +decide only [go_sem] <;> rfl) rfl (by rfl) (by omega) (by omega) sz164 rfl rfl) ?_
      refine goD ?_
      rw [wrap_succ (by omega)]
      exact ⟨k + 1, by omega, by omega, by rw [lnkK_s fr to f k hc, if_pos hb]; exact .wk⟩
    refine goD ?_
    rw [wrap_succ (by omega)]
    exact ⟨k + 1, by omega, by omega, by rw [lnkK_s fr to f k hc, if_neg (by simpa using hb)]; exact .wk⟩
  simp at hc
  obtain rfl : k = f.length := by omega
  refine goD ?_
  rw [lnkK_all]
  exact RetH.same rfl rfl rfl
end Go.Ab
set_option maxHeartbeats 4000000
namespace Go.Ab
open Go Go.Ab Go.Proofs Go.Ab.Ty

attribute [go_sem] encE
theorem gA_len (r : Rx) : ∀ c : Ch, ∃ k, k ≤ r.cnt ∧ (gA r c).1.b.length = c.b.length + k ∧ (gA r c).1.f.length = c.f.length + k := by
  induction r using Rx.ind with
  | h o S l ih =>
  intro c
  rw [gA, cnt_mk]
  by_cases h2 : o = 2
  · rw [if_pos h2]; exact ⟨0, by omega, rfl, rfl⟩
  rw [if_neg h2]
  by_cases h3 : o = 3
  · rw [if_pos h3]; exact ⟨1, by omega, by simp, by simp⟩
  rw [if_neg h3]
  by_cases h6 : o = 6
  · rw [if_pos h6]
    cases l with
    | nil => rw [gS]; exact ⟨0, by omega, rfl, rfl⟩
    | cons x l =>
      obtain ⟨k, h1, h4, h5⟩ := ih x (by simp) c
      rw [gS]
      exact ⟨k, by rw [cnts]; omega, h4, by simp only [lnk_len]; exact h5⟩
  rw [if_neg h6]
  by_cases h5 : o = 5
  · rw [if_pos h5]
    have go : ∀ (l : List Rx) (c : Ch) (out : En), (∀ x ∈ l, ∀ c : Ch, ∃ k, k ≤ x.cnt ∧ (gA x c).1.b.length = c.b.length + k ∧ (gA x c).1.f.length = c.f.length + k) → ∃ k, k ≤ cnts l ∧ (gL l c out).1.b.length = c.b.length + k ∧ (gL l c out).1.f.length = c.f.length + k := by
      intro l
      induction l with
      | nil => intro c out _; rw [gL]; exact ⟨0, by omega, rfl, rfl⟩
      | cons x l ih2 =>
        intro c out hl
        obtain ⟨k, h1, h2, h3⟩ := hl x (by simp) c
        obtain ⟨k2, h4, h5, h6⟩ := ih2 (gA x c).1 (addA out (gA x c).2) fun y hy => hl y (by simp [hy])
        rw [gL, cnts]
        exact ⟨k + k2, by omega, by omega, by omega⟩
    obtain ⟨k, h1, h2, h3⟩ := go l c ⟨0, 0, false⟩ ih
    exact ⟨k, by omega, h2, h3⟩
  rw [if_neg h5]
  by_cases h4 : o = 4
  · rw [if_pos h4]
    have go : ∀ (l : List Rx) (c : Ch) (out : En), (∀ x ∈ l, ∀ c : Ch, ∃ k, k ≤ x.cnt ∧ (gA x c).1.b.length = c.b.length + k ∧ (gA x c).1.f.length = c.f.length + k) → ∃ k, k ≤ cnts l ∧ (gC l c out).1.b.length = c.b.length + k ∧ (gC l c out).1.f.length = c.f.length + k := by
      intro l
      induction l with
      | nil => intro c out _; rw [gC]; exact ⟨0, by omega, rfl, rfl⟩
      | cons x l ih2 =>
        intro c out hl
        obtain ⟨k, h1, h2, h3⟩ := hl x (by simp) c
        obtain ⟨k2, h4, h5, h6⟩ := ih2 ⟨(gA x c).1.b, lnk out.la (gA x c).2.fi (gA x c).1.f⟩ (addC out (gA x c).2) fun y hy => hl y (by simp [hy])
        rw [gC, cnts]
        simp only [lnk_len] at h5 h6
        exact ⟨k + k2, by omega, by omega, by omega⟩
    obtain ⟨k, h1, h2, h3⟩ := go l c ⟨0, 0, true⟩ ih
    exact ⟨k, by omega, h2, h3⟩
  rw [if_neg h4]
  exact ⟨0, by omega, rfl, rfl⟩
abbrev chH (c : Ch) (fi la : B64) (em : Bool) : List ABlk := [chS c.b.length c.f.length fi la em, chB c.b, chF c.f]
abbrev encO (e : En) : ABlk := ⟨190, 3, [encE e]⟩
theorem sel3 {n : Nat} (b : Nat) (h : b < (⟨n, 3⟩ : Fr).m) : ([0, 1, 2] : List Nat)[b]? = some b := by
  match b, h with
  | 0, _ => rfl
  | 1, _ => rfl
  | 2, _ => rfl
theorem PuB_chB (b : List ByteArray) : ∀ e ∈ (chB b).es, ∀ c ∈ e.cells, Pu c := fun e he c hc => by
  obtain ⟨x, _, rfl⟩ := List.mem_map.1 he
  simp only [AV.cells, List.mem_singleton] at hc
  subst hc; exact .base _
theorem PuB_chF (f : List B64) : ∀ e ∈ (chF f).es, ∀ c ∈ e.cells, Pu c := fun e he c hc => by
  obtain ⟨x, _, rfl⟩ := List.mem_map.1 he
  simp only [AV.cells, List.mem_singleton] at hc
  subst hc; exact .base _
theorem PuL_E (e : En) : ∀ c ∈ ([u6 e.fi, u6 e.la, .bool e.em] : List AV), Pu c := fun c hc => by
  simp only [List.mem_cons, List.not_mem_nil, or_false] at hc
  rcases hc with rfl | rfl | rfl <;> exact .base _
theorem Pu_E (e : En) : Pu (encE e) := .agg (PuL_E e)
theorem PuB_E (e : En) : ∀ x ∈ (encO e).es, ∀ c ∈ x.cells, Pu c := fun x hx c hc => by
  rw [List.mem_singleton] at hx; subst hx
  exact PuL_E e c hc
theorem chS_pub {r : Nat → Option Nat} {H : List ABlk} (h1 : r 1 = some 1) (h2 : r 2 = some 2) (nb nf : Nat) (fi la : B64) (em : Bool) : BlkPub r H (chS nb nf fi la em) (chS nb nf fi la em) :=
  .one (show PubRL r H [_, _, _, _, _] [_, _, _, _, _] from ⟨.own h1, .own h2, .pu (.base _), .pu (.base _), .pu (.base _), trivial⟩)
theorem chS_mv {r : Nat → Option Nat} {H : List ABlk} (h1 : r 1 = some 1) (h2 : r 2 = some 2) (nb nf : Nat) (fi la : B64) (em : Bool) : BlkMv r H (chS nb nf fi la em) (chS nb nf fi la em) :=
  .one (show MvL r H [_, _, _, _, _] [_, _, _, _, _] from ⟨.own h1, .own h2, .pu (.base _), .pu (.base _), .pu (.base _), trivial⟩)
theorem chSel (c : Ch) (fi la : B64) (em : Bool) (T : List ABlk) : SelB (ro [0, 1, 2]) (chH c fi la em ++ T) [0, 1, 2] (chH c fi la em) :=
  ⟨⟨_, rfl, chS_pub (by decide) (by decide) _ _ _ _ _⟩, ⟨_, rfl, .pu (PuB_chB _)⟩, ⟨_, rfl, .pu (PuB_chF _)⟩, trivial⟩
theorem pl_ch {ρ : Operand → AV} {f : FuncId} {args : List AV} {d : AV} {c c' : Ch} {fi la : B64} {em : Bool} {T : List ABlk} (i : FnH Try.prog f (.ptr 0 1 0 0 :: args) (chH c fi la em) d (chH c' fi la em)) {cl : Call} {fx x : Operand} {ops : List Operand}
    (hc : cl.callee = .value fx) (hfx : ρ fx = .clo f []) (has : cl.args.toList = x :: ops) (hx : ρ x = .ptr 0 1 0 0) (ha : ops.map ρ = args) (hpa : ∀ a ∈ args, Pu a) (hd : Pu d) : PL Try.prog (chH c fi la em ++ T) ρ (.call cl) d (chH c' fi la em ++ T) := by
  refine pl_callN [0, 1, 2] (chH c' fi la em) i (by decide) ⟨⟨_, rfl, chS_mv (by decide) (by decide) _ _ _ _ _⟩, ⟨_, rfl, .pu (PuB_chB _)⟩, ⟨_, rfl, .pu (PuB_chF _)⟩, trivial⟩
    ⟨chS_mv (by simp [rb]) (by simp [rb]) _ _ _ _ _, .pu (PuB_chB _), .pu (PuB_chF _), trivial⟩ rfl hc hfx ?_ (.pu hd)
  rw [has, List.map_cons, hx, ha, List.append_nil]
  exact ⟨.ptr (by decide), MvL.pu hpa⟩
theorem lnk_ok (fi la : B64) (em : Bool) (c : Ch) (hf : c.f.length ≤ 1000) (fr to : B64) : FnH Try.prog 160 [.ptr 0 1 0 0, u6 fr, u6 to] (chH c fi la em) (.tup []) (chH ⟨c.b, lnk fr to c.f⟩ fi la em) := by
  have := link_ok c.b.length fi la em c.b c.f hf fr to
  unfold chH
  simp only [lnk_len]
  exact this
theorem chPub {H T : List ABlk} {k : Nat} (hk : 3 ≤ k) (c : Ch) (fi la : B64) (em : Bool) (hT : PuBl T) : ∀ blk ∈ chH c fi la em ++ T, ∀ e ∈ blk.es, ∀ x ∈ e.cells, Pub H k x x := by
  intro blk hb e he x hx
  simp only [chH, List.cons_append, List.nil_append, List.mem_cons] at hb
  rcases hb with rfl | rfl | rfl | hb
  · rw [List.mem_singleton] at he; subst he
    simp only [AV.cells, List.mem_cons, List.not_mem_nil, or_false] at hx
    rcases hx with rfl | rfl | rfl | rfl | rfl
    · exact .own (by omega)
    · exact .own (by omega)
    · exact .pu (.base _)
    · exact .pu (.base _)
    · exact .pu (.base _)
  · exact .pu (PuB_chB _ e he x hx)
  · exact .pu (PuB_chF _ e he x hx)
  · exact .pu (hT blk hb e he x hx)
theorem PuB_box (o : Int) (s : ByteArray) (l : List Rx) : ∀ e ∈ (⟨24, 3, [.agg [.int o, str s, .lst (l.map encX)]]⟩ : ABlk).es, ∀ c ∈ e.cells, Pu c := PuBlX o s l _ (by simp)
theorem PuBl_T (o : Int) (s : ByteArray) (l : List Rx) (e1 e2 : En) : PuBl [⟨24, 3, [.agg [.int o, str s, .lst (l.map encX)]]⟩, encO e1, encO e2] := .cons (PuB_box o s l) (.cons (PuB_E e1) (.cons (PuB_E e2) .nil))
theorem add_ok (fi la : B64) (em : Bool) (r : Rx) : r.ok → r.wf → ∀ c : Ch, c.b.length + r.cnt ≤ 900 → c.f.length + r.cnt ≤ 900 → FnH Try.prog 158 [.ptr 0 1 0 0, encX r] (chH c fi la em) (encE (gA r c).2) (chH (gA r c).1 fi la em) := by
  induction r using Rx.ind with
  | h o s l ih =>
  intro hok hwf c hb hf
  obtain ⟨hs, hn, hl⟩ := ok_sub hok
  have hwl := (wf_sub.1 hwf).2
  have hno := (wf_sub.1 hwf).1
  unfold nodeOk at hno
  rw [cnt_mk] at hb hf
  replace ih := fun x hx => ih x hx (hl x hx) (hwl x hx)
  rw [encX_mk]
  refine FnH.intro' [(0, .ptr 0 1 0 0), (1, .agg [.int o, str s, .lst (l.map encX)])] 2 148 3 Try.func158 (by kernel_rfl) rfl rfl rfl rfl rfl rfl ?_
  refine goD ?_
  refine ifA (fun h2 => ?_) (fun h2 => ?_)
  · simp at h2
    subst h2
    rw [show gA (.mk 2 s l) c = (c, ⟨0, 0, true⟩) by rw [gA, if_pos rfl]]
    refine goD ?_
    refine bldA pl190 zero190 ?_
    refine goD ?_
    exact RetH.of (vs := [encE ⟨0, 0, true⟩]) [0, 1, 2] (by kernel_rfl) (by decide) (fun b hb => sel3 b hb) (chSel c fi la em _) (.pu (Pu_E _))
  simp at h2
  refine goD ?_
  refine ifA (fun h3 => ?_) (fun h3 => ?_)
  · simp at h3
    subst h3
    rw [show gA (.mk 3 s l) c = (⟨c.b ++ [s], c.f ++ [0]⟩, ⟨bt c.b.length, bt c.b.length, false⟩) by rw [gA, if_neg (by omega), if_pos rfl]]
    refine goC ?_
    with_reducible apply AWp.drawBK (k := 19) [none, none, none, none, none, none, none, none, none, some 0, none, none, none, none, none, some 1, none, none, some 2] [3, 3, 3, 3, 3, 0, 3, 3, 3, 3, 3, 3, 3, 3, 3, 3, 3, 3, 3] (fun i => match i with
      | 0 => [chS c.b.length c.f.length fi la em, chB c.b, chF c.f, ⟨24, 3, [.agg [.int 3, str s, .lst (l.map encX)]]⟩, encO ⟨0, 0, false⟩]
      | 1 => [chS c.b.length c.f.length fi la em, chB (c.b ++ [s]), chF c.f, ⟨24, 3, [.agg [.int 3, str s, .lst (l.map encX)]]⟩, encO ⟨0, 0, false⟩]
      | 2 => [chS c.b.length c.f.length fi la em, chB (c.b ++ [s]), chF (c.f ++ [0]), ⟨24, 3, [.agg [.int 3, str s, .lst (l.map encX)]]⟩, encO ⟨0, 0, false⟩]
      | _ => [chS (c.b.length + 1) c.f.length fi la em, chB (c.b ++ [s]), chF (c.f ++ [0]), ⟨24, 3, [.agg [.int 3, str s, .lst (l.map encX)]]⟩, encO ⟨0, 0, false⟩]) 3 follows
    · refine ⟨rfl, rfl, by kernel_rfl, by decide, ?_, ?_⟩
      · simp +decide only [go_sem, List.map, List.take]; rfl
      · simp +decide only [go_sem, List.map, List.drop]; rfl
    · kernel_rfl
    · kernel_rfl
    · rfl
    refine BRun.qf3 rfl rfl (by simp +decide only [go_sem] <;> rfl) (by simp +decide only [go_sem] <;> rfl) (by simp +decide only [go_sem] <;> rfl) (by simp +decide only [go_sem] <;> rfl) ?_
    refine BRun.qf3 rfl rfl (by simp +decide only [go_sem] <;> rfl) (by simp +decide only [go_sem] <;> rfl) (by simp +decide only [go_sem] <;> rfl) (by simp +decide only [go_sem] <;> rfl) ?_
    refine BRun.qf3 rfl rfl (by simp +decide only [go_sem] <;> rfl) (by simp +decide only [go_sem] <;> rfl) (by simp +decide only [go_sem] <;> rfl) (by simp +decide only [go_sem] <;> rfl) ?_
    refine BRun.qf3 rfl rfl (by simp +decide only [go_sem] <;> rfl) (by simp +decide only [go_sem] <;> rfl) (by simp +decide only [go_sem] <;> rfl) (by simp +decide only [go_sem] <;> rfl) ?_
    refine BRun.qf3 rfl rfl (by simp +decide only [go_sem] <;> rfl) (by simp +decide only [go_sem] <;> rfl) (by simp +decide only [go_sem] <;> rfl) (by simp +decide only [go_sem] <;> rfl) ?_
    refine BRun.qf0 (v := .own 1 c.b.length 0 c.b.length) rfl rfl (by simp +decide only [go_sem] <;> rfl) ?_
    refine BRun.qf3 rfl rfl (by simp +decide only [go_sem] <;> rfl) (by simp +decide only [go_sem] <;> rfl) (by simp +decide only [go_sem] <;> rfl) (by simp +decide only [go_sem] <;> rfl) ?_
    refine BRun.qf3 (v := str s) rfl rfl (by simp +decide only [go_sem] <;> rfl) (by simp +decide only [go_sem] <;> rfl) (by simp +decide only [go_sem] <;> rfl) (by simp +decide only [go_sem] <;> rfl) ?_
    refine BRun.q1 (v := .lst [str s]) rfl rfl (fun c _ _ => ql_buildSlice (by decide) Try.underlying50 sz9 (by kernel_rfl) (by decide) (by (simp +decide only [List.map, go_sem] <;> rfl)) (by (simp +decide only [List.map, go_sem] <;> rfl)) rfl) ?_
    refine BRun.p1 (v := .own 1 (c.b.length + 1) 0 (c.b.length + 1)) rfl rfl (fun ρ' h => ?_) ?_
    · have := pl_append (P := Try.prog) (ρ := ρ') (H := [chS c.b.length c.f.length fi la em, chB c.b, chF c.f, ⟨24, 3, [.agg [.int 3, str s, .lst (l.map encX)]]⟩, encO ⟨0, 0, false⟩]) (b := 1) (tot := c.b.length) (es := [str s]) ((h (.tmp 33) (by simp [Op.operands, Call.operands])).trans (by simp +decide only [go_sem] <;> rfl)) ((h (.tmp 36) (by simp [Op.operands, Call.operands])).trans (by simp +decide only [go_sem] <;> rfl)) rfl (by simp) Try.underlying50 el9 rfl rfl (by simp) (fun e he => by rw [List.mem_singleton] at he; subst he; exact ⟨rfl, rfl⟩) (by simp; omega) (by simp; omega)
      simp only [chB, List.map_append, List.map_cons, List.map_nil]; exact this
    refine BRun.qf3 rfl rfl (by simp +decide only [go_sem] <;> rfl) (by simp +decide only [go_sem] <;> rfl) (by simp +decide only [go_sem] <;> rfl) (by simp +decide only [go_sem] <;> rfl) ?_
    refine BRun.qf3 rfl rfl (by simp +decide only [go_sem] <;> rfl) (by simp +decide only [go_sem] <;> rfl) (by simp +decide only [go_sem] <;> rfl) (by simp +decide only [go_sem] <;> rfl) ?_
    refine BRun.qf3 rfl rfl (by simp +decide only [go_sem] <;> rfl) (by simp +decide only [go_sem] <;> rfl) (by simp +decide only [go_sem] <;> rfl) (by simp +decide only [go_sem] <;> rfl) ?_
    refine BRun.qf3 (v := .own 2 c.f.length 0 c.f.length) rfl rfl (by simp +decide only [go_sem] <;> rfl) (by simp +decide only [go_sem] <;> rfl) (by simp +decide only [go_sem] <;> rfl) (by simp +decide only [go_sem] <;> rfl) ?_
    refine BRun.q1 (v := .lst [u6 0]) rfl rfl (fun c _ _ => ql_buildSlice (by decide) Try.underlying163 sz164 (by kernel_rfl) (by decide) (by (simp +decide only [List.map, go_sem] <;> rfl)) (by (simp +decide only [List.map, go_sem] <;> rfl)) rfl) ?_
    refine BRun.p1 (v := .own 2 (c.f.length + 1) 0 (c.f.length + 1)) rfl rfl (fun ρ' h => ?_) ?_
    · have := pl_append (P := Try.prog) (ρ := ρ') (H := [chS c.b.length c.f.length fi la em, chB (c.b ++ [s]), chF c.f, ⟨24, 3, [.agg [.int 3, str s, .lst (l.map encX)]]⟩, encO ⟨0, 0, false⟩]) (b := 2) (tot := c.f.length) (es := [u6 0]) ((h (.tmp 41) (by simp [Op.operands, Call.operands])).trans (by simp +decide only [go_sem] <;> rfl)) ((h (.tmp 42) (by simp [Op.operands, Call.operands])).trans (by simp +decide only [go_sem] <;> rfl)) rfl (by simp) Try.underlying163 el164 rfl rfl (by simp) (fun e he => by rw [List.mem_singleton] at he; subst he; exact ⟨rfl, rfl⟩) (by simp; omega) (by simp; omega)
      simp only [chF, List.map_append, List.map_cons, List.map_nil]; exact this
    refine BRun.qf3 rfl rfl (by simp +decide only [go_sem] <;> rfl) (by simp +decide only [go_sem] <;> rfl) (by simp +decide only [go_sem] <;> rfl) (by simp +decide only [go_sem] <;> rfl) ?_
    refine BRun.qf3 rfl rfl (by simp +decide only [go_sem] <;> rfl) (by simp +decide only [go_sem] <;> rfl) (by simp +decide only [go_sem] <;> rfl) (by simp +decide only [go_sem] <;> rfl) ?_
    refine BRun.p1 (v := .bad) rfl rfl (fun ρ' h => ?_) ?_
    · have := pl_store (P := Try.prog) (ρ := ρ') (H := [chS c.b.length c.f.length fi la em, chB (c.b ++ [s]), chF (c.f ++ [0]), ⟨24, 3, [.agg [.int 3, str s, .lst (l.map encX)]]⟩, encO ⟨0, 0, false⟩]) (b := 0) (tot := 1) (i := 0) (off := 0) (x := .tmp 45) (y := .tmp 37) (t := 50) (v := .own 1 (c.b.length + 1) 0 (c.b.length + 1)) ((h (.tmp 45) (by simp [Op.operands, Call.operands])).trans (by simp +decide only [go_sem] <;> rfl)) ((h (.tmp 37) (by simp [Op.operands, Call.operands])).trans (by simp +decide only [go_sem] <;> rfl)) rfl rfl rfl sz50 rfl rfl
      exact this
    refine BRun.nil ?_
    refine goD ?_
    refine bldA pl190 zero190 ?_
    refine goD ?_
    exact RetH.of (vs := [encE ⟨bt c.b.length, bt c.b.length, false⟩]) [0, 1, 2] (by kernel_rfl) (by decide) (fun b hb => sel3 b hb) (by have := chSel ⟨c.b ++ [s], c.f ++ [0]⟩ fi la em [⟨24, 3, [.agg [.int 3, str s, .lst (l.map encX)]]⟩, encO ⟨bt c.b.length, bt c.b.length, false⟩]; simp only [chH, List.length_append, List.length_cons, List.length_nil] at this ⊢; exact this) (.pu (Pu_E _))
  simp at h3
  rw [if_neg h3] at hno
  refine goD ?_
  refine ifA (fun h6 => ?_) (fun h6 => ?_)
  · simp at h6
    subst h6
    obtain ⟨x, rfl⟩ : ∃ x, l = [x] := by
      match l, hno with
      | [x], _ => exact ⟨x, rfl⟩
      | [], hno => simp at hno
      | _ :: _ :: _, hno => simp at hno
    rw [show gA (.mk 6 s [x]) c = (⟨(gA x c).1.b, lnk (gA x c).2.la (gA x c).2.fi (gA x c).1.f⟩, ⟨(gA x c).2.fi, (gA x c).2.la, true⟩) by rw [gA, if_neg (by omega), if_neg (by omega), if_pos rfl, gS]]
    have hx := ih x (by simp) c (by rw [cnts, cnts] at hb; omega) (by rw [cnts, cnts] at hf; omega)
    obtain ⟨k, hk, hkb, hkf⟩ := gA_len x c
    rw [cnts, cnts] at hb hf
    generalize gA x c = q at *
    obtain ⟨c1, fi1, la1, em1⟩ := q
    simp only at hx hkb hkf ⊢
    obtain ⟨ox, sx, lx⟩ := x
    rw [encX_mk] at hx
    rw [List.map_cons, List.map_nil, encX_mk]
    refine goD ?_
    refine ARun.q1 rfl rfl (ql_indexAddr_lst rfl rfl Try.underlying22 (by omega) (e := .agg [.int ox, str sx, .lst (lx.map encX)]) rfl (by kernel_rfl)) ?_
    refine goD ?_
    refine ARun.p1 rfl rfl (pl_ch hx rfl rfl rfl rfl rfl (by simp) (Pu_E _)) ?_
    refine goD ?_
    refine ARun.p1 rfl rfl (pl_ch (lnk_ok fi la em c1 (by omega) la1 fi1) rfl rfl rfl rfl rfl (by simp) (.tup (by simp))) ?_
    refine goD ?_
    refine bldA pl190 zero190 ?_
    refine goD ?_
    exact RetH.of (vs := [encE ⟨fi1, la1, true⟩]) [0, 1, 2] (by kernel_rfl) (by decide) (fun b hb => sel3 b hb) (chSel ⟨c1.b, lnk la1 fi1 c1.f⟩ fi la em _) (.pu (Pu_E _))
  simp at h6
  refine goD ?_
  refine ifA (fun h5 => ?_) (fun h5 => ?_)
  · simp at h5
    subst h5
    rw [show gA (.mk 5 s l) c = gL l c ⟨0, 0, false⟩ by rw [gA, if_neg (by omega), if_neg (by omega), if_neg (by omega), if_pos rfl]]
    refine goD ?_
    refine keA [0, 4, 7, 73, 74, 75] ?_
    refine AWp.loopH (J := fun x : Nat × Ch × En => x.1 ≤ l.length ∧ gL l c ⟨0, 0, false⟩ = gL (l.drop x.1) x.2.1 x.2.2 ∧ x.2.1.b.length + cnts (l.drop x.1) ≤ 899 ∧ x.2.1.f.length + cnts (l.drop x.1) ≤ 899) (fun x => [(75, .int x.1)])
      (fun x => chH x.2.1 fi la em ++ [⟨24, 3, [.agg [.int 5, str s, .lst (l.map encX)]]⟩, encO ⟨0, 0, false⟩, encO x.2.2]) (fun x => l.length - x.1) (0, c, ⟨0, 0, false⟩) ⟨Nat.zero_le _, rfl, by rw [List.drop_zero]; simp only; omega, by rw [List.drop_zero]; simp only; omega⟩ .wk ?_
    rintro ⟨k, c1, out⟩ ⟨hk, hg, hb1, hf1⟩
    simp only at hk hg hb1 hf1
    simp only [chH, List.cons_append, List.nil_append]
    refine goD ?_
    refine ifA (fun hc => ?_) (fun hc => ?_)
    · simp at hc
      have hm : l[k] ∈ l := List.getElem_mem _
      have hx := ih _ hm c1 (by rw [List.drop_eq_getElem_cons hc, cnts] at hb1; omega) (by rw [List.drop_eq_getElem_cons hc, cnts] at hf1; omega)
      obtain ⟨j, hj, hjb, hjf⟩ := gA_len l[k] c1
      rw [List.drop_eq_getElem_cons hc] at hg hb1 hf1
      rw [cnts] at hb1 hf1
      rw [gL] at hg
      have hidx : (l.map encX)[k]? = some (encX l[k]) := by rw [List.getElem?_map, List.getElem?_eq_getElem hc]; rfl
      generalize hlk : l[k] = x at *
      generalize gA x c1 = q at *
      obtain ⟨c2, fi1, la1, em1⟩ := q
      simp only at hx hjb hjf hg
      obtain ⟨ox, sx, lx⟩ := x
      rw [encX_mk] at hx hidx
      refine goD ?_
      refine ARun.q1 rfl rfl (ql_indexAddr_lst rfl rfl Try.underlying22 (by omega) (e := .agg [.int ox, str sx, .lst (lx.map encX)]) (by simpa using hidx) (by kernel_rfl)) ?_
      refine goD ?_
      refine ARun.p1 rfl rfl (pl_ch (T := [⟨24, 3, [.agg [.int 5, str s, .lst (l.map encX)]]⟩, encO ⟨0, 0, false⟩, encO out, ⟨24, 3, [.agg [.int ox, str sx, .lst (lx.map encX)]]⟩]) hx rfl rfl rfl rfl rfl (by simp) (Pu_E _)) ?_
      simp only [chH, List.cons_append, List.nil_append]
      refine goD ?_
      refine bldA pl190 zero190 ?_
      refine goD ?_
      rw [wrap_succ (by omega)]
      refine ⟨(k + 1, c2, addA out ⟨fi1, la1, em1⟩), ⟨hc, hg, by simp only; omega, by simp only; omega⟩, by simp only; omega, ?_⟩
      obtain ⟨fo, lo, eo⟩ := out
      cases eo <;> exact Wk.trimM 6 (by decide) rfl (by simp +decide only [go_sem, WkP]; (repeat' apply And.intro); all_goals first | trivial | exact .pu (.base _) | exact .ptr (by decide) | exact .own (by decide) | exact .pu (by simp) | exact .bad _) (chPub (by omega) c2 fi la em (PuBl_T _ _ _ _ _))
    simp at hc
    obtain rfl : k = l.length := by omega
    rw [List.drop_length, gL] at hg
    rw [hg]
    refine goD ?_
    exact RetH.of (vs := [encE out]) [0, 1, 2] (by kernel_rfl) (by decide) (fun b hb => sel3 b hb) (chSel c1 fi la em _) (.pu (Pu_E _))
  simp at h5
  refine goD ?_
  refine ifA (fun h4 => ?_) (fun h4 => ?_)
  · simp at h4
    subst h4
    rw [show gA (.mk 4 s l) c = gC l c ⟨0, 0, true⟩ by rw [gA, if_neg (by omega), if_neg (by omega), if_neg (by omega), if_neg (by omega), if_pos rfl]]
    refine goD ?_
    refine bldA pl190 zero190 ?_
    refine goD ?_
    refine keA [0, 4, 11, 105, 106, 107] ?_
    refine AWp.loopH (J := fun x : Nat × Ch × En => x.1 ≤ l.length ∧ gC l c ⟨0, 0, true⟩ = gC (l.drop x.1) x.2.1 x.2.2 ∧ x.2.1.b.length + cnts (l.drop x.1) ≤ 899 ∧ x.2.1.f.length + cnts (l.drop x.1) ≤ 899) (fun x => [(107, .int x.1)])
      (fun x => chH x.2.1 fi la em ++ [⟨24, 3, [.agg [.int 4, str s, .lst (l.map encX)]]⟩, encO ⟨0, 0, false⟩, encO x.2.2]) (fun x => l.length - x.1) (0, c, ⟨0, 0, true⟩) ⟨Nat.zero_le _, rfl, by rw [List.drop_zero]; simp only; omega, by rw [List.drop_zero]; simp only; omega⟩ .wk ?_
    rintro ⟨k, c1, out⟩ ⟨hk, hg, hb1, hf1⟩
    simp only at hk hg hb1 hf1
    simp only [chH, List.cons_append, List.nil_append]
    refine goD ?_
    refine ifA (fun hc => ?_) (fun hc => ?_)
    · simp at hc
      have hm : l[k] ∈ l := List.getElem_mem _
      have hx := ih _ hm c1 (by rw [List.drop_eq_getElem_cons hc, cnts] at hb1; omega) (by rw [List.drop_eq_getElem_cons hc, cnts] at hf1; omega)
      obtain ⟨j, hj, hjb, hjf⟩ := gA_len l[k] c1
      rw [List.drop_eq_getElem_cons hc] at hg hb1 hf1
      rw [cnts] at hb1 hf1
      rw [gC] at hg
      have hidx : (l.map encX)[k]? = some (encX l[k]) := by rw [List.getElem?_map, List.getElem?_eq_getElem hc]; rfl
      generalize hlk : l[k] = x at *
      generalize gA x c1 = q at *
      obtain ⟨c2, fi1, la1, em1⟩ := q
      simp only at hx hjb hjf hg
      obtain ⟨ox, sx, lx⟩ := x
      rw [encX_mk] at hx hidx
      refine goD ?_
      refine ARun.q1 rfl rfl (ql_indexAddr_lst rfl rfl Try.underlying22 (by omega) (e := .agg [.int ox, str sx, .lst (lx.map encX)]) (by simpa using hidx) (by kernel_rfl)) ?_
      refine goD ?_
      refine ARun.p1 rfl rfl (pl_ch (T := [⟨24, 3, [.agg [.int 4, str s, .lst (l.map encX)]]⟩, encO ⟨0, 0, false⟩, encO out, ⟨24, 3, [.agg [.int ox, str sx, .lst (lx.map encX)]]⟩]) hx rfl rfl rfl rfl rfl (by simp) (Pu_E _)) ?_
      simp only [chH, List.cons_append, List.nil_append]
      refine goD ?_
      refine ARun.p1 rfl rfl (pl_ch (T := [⟨24, 3, [.agg [.int 4, str s, .lst (l.map encX)]]⟩, encO ⟨0, 0, false⟩, encO out, ⟨24, 3, [.agg [.int ox, str sx, .lst (lx.map encX)]]⟩, encO ⟨fi1, la1, em1⟩]) (lnk_ok fi la em c2 (by omega) out.la fi1) rfl rfl rfl rfl rfl (by simp) (.tup (by simp))) ?_
      simp only [chH, List.cons_append, List.nil_append]
      refine goD ?_
      obtain ⟨fo, lo, eo⟩ := out
      have hlk2 := lnk_len lo fi1 c2.f
      cases eo <;> cases em1 <;> (first | refine ift_ ?_ | refine iff_ ?_) <;> (refine goD ?_) <;> (first | refine ift_ ?_ | refine iff_ ?_) <;> (refine goD ?_) <;> rw [wrap_succ (by omega)] <;>
        refine ⟨(k + 1, ⟨c2.b, lnk lo fi1 c2.f⟩, addC ⟨fo, lo, _⟩ ⟨fi1, la1, _⟩), ⟨hc, hg, by simp only; omega, by simp only; omega⟩, by simp only; omega, ?_⟩ <;> exact Wk.trimM 6 (by decide) rfl (by simp +decide only [go_sem, WkP]; (repeat' apply And.intro); all_goals first | trivial | exact .pu (.base _) | exact .ptr (by decide) | exact .own (by decide) | exact .pu (by simp) | exact .bad _) (chPub (by omega) ⟨c2.b, lnk lo fi1 c2.f⟩ fi la em (PuBl_T _ _ _ _ _))
    simp at hc
    obtain rfl : k = l.length := by omega
    rw [List.drop_length, gC] at hg
    rw [hg]
    refine goD ?_
    exact RetH.of (vs := [encE out]) [0, 1, 2] (by kernel_rfl) (by decide) (fun b hb => sel3 b hb) (chSel c1 fi la em _) (.pu (Pu_E _))
  simp at h4
  rw [show gA (.mk o s l) c = (c, ⟨0, 0, false⟩) by rw [gA, if_neg h2, if_neg h3, if_neg h6, if_neg h5, if_neg h4]]
  refine goD ?_
  refine bldA pl190 zero190 ?_
  refine goD ?_
  exact RetH.of (vs := [encE ⟨0, 0, false⟩]) [0, 1, 2] (by kernel_rfl) (by decide) (fun b hb => sel3 b hb) (chSel c fi la em _) (.pu (Pu_E _))
end Go.Ab
