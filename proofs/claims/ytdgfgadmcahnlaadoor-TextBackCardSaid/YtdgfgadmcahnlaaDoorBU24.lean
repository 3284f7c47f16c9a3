/- Part of the proof. -/
import Derived.Test.YtdgfgadmcahnlaaDoorUR24
import Derived.Test.YtdgfgadmcahnlaaDoorAbJ
import Derived.Test.YtdgfgadmcahnlaaDoorAbI
set_option linter.unusedSimpArgs false
set_option linter.unusedVariables false
-- fnh
set_option maxHeartbeats 4000000
namespace Go.Ab
open Go Go.Ab Go.Proofs Go.Ab.Ty

/-! ### strings.Builder -/
abbrev bS (u : Bool) (n : Nat) : ABlk := bldS 84 (pA u 0) 1 n
abbrev bB (l : List UInt8) : ABlk := bldB 5 l
attribute [go_sem] bS bB Bool.false_eq_true
theorem copyCheck_ok (u : Bool) (l : List UInt8) : FnH Tryd.prog 109 [.ptr 0 1 0 0] [bS u l.length, bB l] (.tup []) [bS true l.length, bB l] := by
  cases u with
  | false =>
    refine FnH.intro' [(0, .ptr 0 1 0 0)] 1 20 2 Tryd.func109 (by kernel_rfl) rfl rfl rfl rfl rfl rfl ?_
    simp only [bS, bldS, pA, if_true, if_false, Bool.false_eq_true]
    refine goD ?_
    refine ARun.q1 rfl rfl (ql_nilNil rfl rfl Tryd.underlying81) ?_
    refine goD ?_
    refine AWp.cond (b := true) rfl (fun _ => ?_) (fun h => by cases h)
    refine goD ?_
    refine ARun.q1 rfl rfl (ql_toUnsafe rfl rfl rfl (by decide) Tryd.underlying81 Tryd.underlying117 sz84) ?_
    refine goD ?_
    refine ARun.q1 rfl rfl (ql_noEscape Tryd.func117 (by kernel_rfl) (by kernel_rfl) (by kernel_rfl) (by kernel_rfl) rfl rfl) ?_
    refine goD ?_
    refine ARun.q1 rfl rfl (ql_fromUnsafe rfl rfl rfl Tryd.underlying117 Tryd.underlying81 sz84 (by decide)) ?_
    refine goD ?_
    exact RetH.same rfl rfl rfl
  | true =>
    refine FnH.intro' [(0, .ptr 0 1 0 0)] 1 20 2 Tryd.func109 (by kernel_rfl) rfl rfl rfl rfl rfl rfl ?_
    simp only [bS, bldS, pA, if_true, if_false, Bool.false_eq_true]
    refine goD ?_
    refine ARun.q1 rfl rfl (ql_ptrNil rfl rfl rfl Tryd.underlying81) ?_
    refine goD ?_
    refine AWp.cond (b := false) rfl (fun h => by cases h) (fun _ => ?_)
    refine goD ?_
    refine ARun.q1 rfl rfl (ql_ptrNeSame rfl rfl rfl Tryd.underlying81 sz84) ?_
    refine goD ?_
    refine AWp.cond (b := false) rfl (fun h => by cases h) (fun _ => ?_)
    refine goD ?_
    exact RetH.same rfl rfl rfl
theorem blen_ok (u : Bool) (l : List UInt8) : FnH Tryd.prog 93 [.ptr 0 1 0 0] [bS u l.length, bB l] (.int l.length) [bS u l.length, bB l] := by
  refine FnH.intro' [(0, .ptr 0 1 0 0)] 1 8 2 Tryd.func93 (by kernel_rfl) rfl rfl rfl rfl rfl rfl ?_
  refine goD ?_
  exact RetH.same rfl rfl rfl
theorem bstr_ok (u : Bool) (l : List UInt8) (hl : l.length ≤ maxLen) : FnH Tryd.prog 88 [.ptr 0 1 0 0] [bS u l.length, bB l] (str ⟨l.toArray⟩) [bS u l.length, if l.length = 0 then bB l else frzB (l.length + 1)] := by
  refine FnH.intro' [(0, .ptr 0 1 0 0)] 1 14 2 Tryd.func88 (by kernel_rfl) rfl rfl rfl rfl rfl rfl ?_
  refine goD ?_
  refine drA (k := 10) follows (hr := ?_)
  refine goD ?_
  refine ARun.q1t rfl rfl (ql_sliceData rfl rfl (by simp) Tryd.underlying111) ?_
  refine goD ?_
  refine ARun.p1 rfl rfl (pl_unsafeString rfl rfl rfl rfl hl Tryd.underlying111 (by kernel_rfl)) ?_
  refine goD ?_
  exact RetH.same rfl rfl (by by_cases h : l.length = 0 <;> simp [h, bS, bldS, bB, bldB, pA])
/-! ### AppendRune -/
theorem and63u (x : Nat) (hx : x < 256) : IntKind.u8.wrap ((BitVec.ofInt 8 (x : Int) &&& BitVec.ofInt 8 63).toNat : Int) = ((x % 64 : Nat) : Int) := by
  have e : (BitVec.ofInt 8 (x : Int) &&& BitVec.ofInt 8 63).toNat = x % 64 := by
    rw [show (63 : Int) = ((2 ^ 6 - 1 : Nat) : Int) from rfl, BitVec.toNat_and, BitVec.ofInt_natCast, BitVec.ofInt_natCast, BitVec.toNat_ofNat, BitVec.toNat_ofNat, Nat.mod_eq_of_lt (by omega), Nat.mod_eq_of_lt (a := 2 ^ 6 - 1) (by omega), Nat.and_two_pow_sub_one_eq_mod]
  rw [e]; exact u8w (by omega)
theorem orNu (m k x : Nat) (hx : x < 2 ^ k) (h : 2 ^ k * m + x < 256) : IntKind.u8.wrap ((BitVec.ofInt 8 ((2 ^ k * m : Nat) : Int) ||| BitVec.ofInt 8 (x : Int)).toNat : Int) = ((2 ^ k * m + x : Nat) : Int) := by
  have e : (BitVec.ofInt 8 ((2 ^ k * m : Nat) : Int) ||| BitVec.ofInt 8 (x : Int)).toNat = 2 ^ k * m + x := by
    rw [BitVec.toNat_or, BitVec.ofInt_natCast, BitVec.ofInt_natCast, BitVec.toNat_ofNat, BitVec.toNat_ofNat, Nat.mod_eq_of_lt (by omega), Nat.mod_eq_of_lt (a := x) (by omega)]
    exact (Nat.two_pow_add_eq_or_of_lt hx m).symm
  rw [e, u8w (by omega)]
theorem shr6r (c : Nat) : (c : Int).fdiv (2 ^ min (Int.toNat 6) 32) = ((c / 64 : Nat) : Int) := by
  rw [show ((2 : Int) ^ min (Int.toNat 6) 32) = 64 by decide +kernel]
  rw [Int.fdiv_eq_ediv_of_nonneg _ (by omega)]; omega
theorem shr12r (c : Nat) : (c : Int).fdiv (2 ^ min (Int.toNat 12) 32) = ((c / 4096 : Nat) : Int) := by
  rw [show ((2 : Int) ^ min (Int.toNat 12) 32) = 4096 by decide +kernel]
  rw [Int.fdiv_eq_ediv_of_nonneg _ (by omega)]; omega
theorem shr18r (c : Nat) : (c : Int).fdiv (2 ^ min (Int.toNat 18) 32) = ((c / 262144 : Nat) : Int) := by
  rw [show ((2 : Int) ^ min (Int.toNat 18) 32) = 262144 by decide +kernel]
  rw [Int.fdiv_eq_ediv_of_nonneg _ (by omega)]; omega
theorem wrap32 {c : Nat} (h : c < 2147483648) : IntKind.i32.wrap (c : Int) = (c : Int) := wrap32_id (by omega) (by omega)
def cvr (k : IntKind) : AV → Option AV
  | .base (.int _ n) => some (.base (.int k (k.wrap n)))
  | _ => none
theorem qfun_conv215 (H : List ABlk) (ρ : Operand → AV) (x : Operand) : qfun Tryd.prog H ρ (.convert 21 5 x) = cvr .u8 (ρ x) := by
  simp only [qfun, Tryd.underlying21, Tryd.underlying5]
  generalize ρ x = a
  cases a with
  | base v => cases v <;> rfl
  | _ => rfl
theorem qfun_conv2120 (H : List ABlk) (ρ : Operand → AV) (x : Operand) : qfun Tryd.prog H ρ (.convert 21 120 x) = cvr .u32 (ρ x) := by
  simp only [qfun, Tryd.underlying21, Tryd.underlying120]
  generalize ρ x = a
  cases a with
  | base v => cases v <;> rfl
  | _ => rfl
theorem qfun_conv321 (H : List ABlk) (ρ : Operand → AV) (x : Operand) : qfun Tryd.prog H ρ (.convert 3 21 x) = cvr .i32 (ρ x) := by
  simp only [qfun, Tryd.underlying3, Tryd.underlying21]
  generalize ρ x = a
  cases a with
  | base v => cases v <;> rfl
  | _ => rfl
section
variable {H : List ABlk} {E : Env} {t : Nat} {c : Nat}
theorem ql_cr8 (hx : lk E t = r32 c) : QL Tryd.prog H (ev E) (.convert 21 5 (.tmp t)) (u8v (c % 256)) := ql_fun (by
  rw [qfun_conv215]
  show cvr .u8 (lk E t) = _
  rw [hx]
  show some (AV.base (.int .u8 (IntKind.u8.wrap c))) = _
  have : IntKind.u8.wrap (c : Int) = (c : Int) % 256 := rfl
  rw [this]; rfl)
theorem ql_cr32 (hx : lk E t = r32 c) (h : c < 4294967296) : QL Tryd.prog H (ev E) (.convert 21 120 (.tmp t)) (.base (.int .u32 c)) := ql_fun (by
  rw [qfun_conv2120]
  show cvr .u32 (lk E t) = _
  rw [hx]
  show some (AV.base (.int .u32 (IntKind.u32.wrap c))) = _
  have : IntKind.u32.wrap (c : Int) = (c : Int) % 4294967296 := rfl
  rw [this]
  have : (c : Int) % 4294967296 = c := by omega
  rw [this])
theorem ql_ci32 (hx : lk E t = .int c) (h : c < 2147483648) : QL Tryd.prog H (ev E) (.convert 3 21 (.tmp t)) (r32 c) := ql_fun (by
  rw [qfun_conv321]
  show cvr .i32 (lk E t) = _
  rw [hx]
  show some (AV.base (.int .i32 (IntKind.i32.wrap c))) = _
  have : IntKind.i32.wrap (c : Int) = (c : Int) := wrap32 h
  rw [this])
theorem ql_r6 (hx : lk E t = r32 c) : QL Tryd.prog H (ev E) (.binOp .shr 21 (.tmp t) (.const (.int .u64 6)) 74) (r32 (c / 64 : Nat)) := by
  refine ql_fun ?_
  simp +decide only [go_sem, hx]
  exact congrArg (fun z => some (AV.base (.int .i32 z))) (shr6r c)
theorem ql_r12 (hx : lk E t = r32 c) : QL Tryd.prog H (ev E) (.binOp .shr 21 (.tmp t) (.const (.int .u64 12)) 74) (r32 (c / 4096 : Nat)) := by
  refine ql_fun ?_
  simp +decide only [go_sem, hx]
  exact congrArg (fun z => some (AV.base (.int .i32 z))) (shr12r c)
theorem ql_r18 (hx : lk E t = r32 c) : QL Tryd.prog H (ev E) (.binOp .shr 21 (.tmp t) (.const (.int .u64 18)) 74) (r32 (c / 262144 : Nat)) := by
  refine ql_fun ?_
  simp +decide only [go_sem, hx]
  exact congrArg (fun z => some (AV.base (.int .i32 z))) (shr18r c)
theorem ql_a63 (hx : lk E t = u8v c) (h : c < 256) : QL Tryd.prog H (ev E) (.binOp .and 5 (.tmp t) (.const (.int .u8 63)) 5) (u8v (c % 64)) := by
  have e := and63u c h
  refine ql_fun ?_
  simp +decide only [go_sem, hx, u8v]
  exact congrArg (fun z => some (AV.base (.int .u8 z))) e
theorem ql_o128 (hx : lk E t = u8v c) (h : c < 64) : QL Tryd.prog H (ev E) (.binOp .or 5 (.const (.int .u8 128)) (.tmp t) 5) (u8v (128 + c)) := by
  refine ql_fun ?_
  simp +decide only [go_sem, hx, u8v]
  exact congrArg (fun z => some (AV.base (.int .u8 z))) (orNu 2 6 c (by omega) (by omega))
theorem ql_o192 (hx : lk E t = u8v c) (h : c < 32) : QL Tryd.prog H (ev E) (.binOp .or 5 (.const (.int .u8 192)) (.tmp t) 5) (u8v (192 + c)) := by
  refine ql_fun ?_
  simp +decide only [go_sem, hx, u8v]
  exact congrArg (fun z => some (AV.base (.int .u8 z))) (orNu 6 5 c (by omega) (by omega))
theorem ql_o224 (hx : lk E t = u8v c) (h : c < 16) : QL Tryd.prog H (ev E) (.binOp .or 5 (.const (.int .u8 224)) (.tmp t) 5) (u8v (224 + c)) := by
  refine ql_fun ?_
  simp +decide only [go_sem, hx, u8v]
  exact congrArg (fun z => some (AV.base (.int .u8 z))) (orNu 14 4 c (by omega) (by omega))
theorem ql_o240 (hx : lk E t = u8v c) (h : c < 8) : QL Tryd.prog H (ev E) (.binOp .or 5 (.const (.int .u8 240)) (.tmp t) 5) (u8v (240 + c)) := by
  refine ql_fun ?_
  simp +decide only [go_sem, hx, u8v]
  exact congrArg (fun z => some (AV.base (.int .u8 z))) (orNu 30 3 c (by omega) (by omega))
end
theorem PuBl_B (l : List UInt8) : PuBl [bB l] := fun blk h1 e h2 c h3 => by
  rw [List.mem_singleton] at h1; subst h1
  exact PuB_bld 5 l e h2 c h3
theorem u8_of {n : Nat} (h : n < 256) : AV.u8 (UInt8.ofNat n) = u8v n := by
  show AV.base (.int .u8 (UInt8.ofNat n).toNat) = _
  rw [u8n h]
theorem el5d : elI Tryd.prog 5 1 1 = true := by kernel_rfl
theorem wrapu {c : Nat} (h : c < 4294967296) : IntKind.u32.wrap (c : Int) = (c : Int) := by
  have : IntKind.u32.wrap (c : Int) = (c : Int) % 4294967296 := rfl
  rw [this]; omega
theorem bB_app (l : List UInt8) (es : List AV) (R : ByteArray) (h : es = R.data.toList.map AV.u8) : ({ bB l with es := (bB l).es ++ es } : ABlk) = bB (l ++ R.data.toList) := by
  subst h
  simp [bldB]
theorem um (c : Nat) : IntKind.u8.wrap (c : Int) = ((c % 256 : Nat) : Int) := by
  have : IntKind.u8.wrap (c : Int) = (c : Int) % 256 := rfl
  rw [this]; rfl
theorem lowN (c : Nat) : IntKind.u8.wrap ((BitVec.ofInt 8 128 ||| BitVec.ofInt 8 (IntKind.u8.wrap ((BitVec.ofInt 8 (IntKind.u8.wrap (c : Int)) &&& BitVec.ofInt 8 63).toNat : Int))).toNat : Int) = ((128 + c % 64 : Nat) : Int) := by
  rw [um c, and63u _ (by omega), show c % 256 % 64 = c % 64 by omega]
  exact orNu 2 6 _ (by omega) (by omega)
theorem cL2 {a b : Int} {c d : Nat} (h1 : a = c) (h2 : b = d) : AV.lst [.base (.int .u8 a), .base (.int .u8 b)] = .lst [u8v c, u8v d] := by rw [h1, h2]
theorem cL3 {a b x : Int} {c d y : Nat} (h1 : a = c) (h2 : b = d) (h3 : x = y) : AV.lst [.base (.int .u8 a), .base (.int .u8 b), .base (.int .u8 x)] = .lst [u8v c, u8v d, u8v y] := by rw [h1, h2, h3]
theorem cL4 {a b x z : Int} {c d y v : Nat} (h1 : a = c) (h2 : b = d) (h3 : x = y) (h4 : z = v) : AV.lst [.base (.int .u8 a), .base (.int .u8 b), .base (.int .u8 x), .base (.int .u8 z)] = .lst [u8v c, u8v d, u8v y, u8v v] := by rw [h1, h2, h3, h4]
theorem appendNon_ok (c : Nat) (hv : Utf8.valid (c : Int) = true) (h : 128 ≤ c) (l : List UInt8) (hl : l.length ≤ 1000000) :
    FnH Tryd.prog 119 [.own 0 l.length 0 l.length, r32 c] [bB l] (.own 0 (l ++ (Utf8.encode (c : Int)).data.toList).length 0 (l ++ (Utf8.encode (c : Int)).data.toList).length) [bB (l ++ (Utf8.encode (c : Int)).data.toList)] := by
  have hE := enc_e hv
  have hc := (val_iff c).1 hv
  rw [if_neg (by omega)] at hE
  generalize Utf8.encode (c : Int) = R at *
  refine FnH.intro' [(0, .own 0 l.length 0 l.length), (1, r32 c)] 2 78 1 Tryd.func119 (by kernel_rfl) rfl rfl rfl rfl rfl rfl ?_
  refine goD ?_
  rw [wrapu (show c < 4294967296 by omega)]
  refine ifA (fun h1 => ?_) (fun h1 => ?_)
  · have h1 := of_decide_eq_true h1
    rw [if_pos (by omega)] at hE
    have w1 : IntKind.u8.wrap ((BitVec.ofInt 8 192 ||| BitVec.ofInt 8 (IntKind.u8.wrap ((c : Int).fdiv (2 ^ min (Int.toNat 6) 32)))).toNat : Int) = ((192 + c / 64 : Nat) : Int) := by
      rw [shr6r, u8w (show c / 64 < 256 by omega)]; exact orNu 6 5 _ (by omega) (by omega)
    refine goD ?_
    refine ARun.p1 rfl rfl (pl_append (b := 0) (tot := l.length) (es := [u8v (192 + c / 64), u8v (128 + c % 64)]) (by simp +decide only [go_sem] <;> rfl) (by
          simp +decide only [go_sem]
          exact cL2 w1 (lowN c)) rfl (by simp) Tryd.underlying82 el5 rfl rfl (by simp) (fun e he => by simp at he; rcases he with rfl | rfl <;> exact ⟨rfl, rfl⟩) (by simp; omega) (by simp; omega)) ?_
    have hb : [u8v (192 + c / 64), u8v (128 + c % 64)] = R.data.toList.map AV.u8 := by
      rw [hE]; simp only [List.map_cons, List.map_nil, u8_of (show 192 + c / 64 < 256 by omega), u8_of (show 128 + c % 64 < 256 by omega)]
    have hlen : (l ++ R.data.toList).length = l.length + 2 := by rw [hE]; simp
    refine goD ?_
    exact RetH.same rfl (by rw [hlen]; rfl) (by rw [hb]; simp [bldB])
  have h1 := of_decide_eq_false h1
  rw [if_neg (by omega)] at hE
  refine goD ?_
  by_cases h2 : c < 65536
  · rw [if_pos h2] at hE
    have hT : decide ((c : Int) < 55296) = true ∨ (decide ((c : Int) < 55296) = false ∧ decide ((57343 : Int) < c) = true) := by
      by_cases q : c < 55296
      · left; exact decide_eq_true (by omega)
      · right; exact ⟨decide_eq_false (by omega), decide_eq_true (by omega)⟩
    have w1 : IntKind.u8.wrap ((BitVec.ofInt 8 224 ||| BitVec.ofInt 8 (IntKind.u8.wrap ((c : Int).fdiv (2 ^ min (Int.toNat 12) 32)))).toNat : Int) = ((224 + c / 4096 : Nat) : Int) := by
      rw [shr12r, u8w (show c / 4096 < 256 by omega)]; exact orNu 14 4 _ (by omega) (by omega)
    have w2 : IntKind.u8.wrap ((BitVec.ofInt 8 128 ||| BitVec.ofInt 8 (IntKind.u8.wrap ((BitVec.ofInt 8 (IntKind.u8.wrap ((c : Int).fdiv (2 ^ min (Int.toNat 6) 32))) &&& BitVec.ofInt 8 63).toNat : Int))).toNat : Int) = ((128 + c / 64 % 64 : Nat) : Int) := by
      rw [shr6r]; exact lowN _
    have h6 : decide ((c : Int) ≤ 65535) = true := decide_eq_true (by omega)
    rcases hT with q | ⟨q, q2⟩
    · rw [q]
      refine goD ?_
      refine ifT ?_
      refine goD ?_
      refine ifT ?_
      refine goD ?_
      refine ARun.p1 rfl rfl (pl_append (b := 0) (tot := l.length) (es := [u8v (224 + c / 4096), u8v (128 + c / 64 % 64), u8v (128 + c % 64)]) (by simp +decide only [go_sem] <;> rfl) (by
            simp +decide only [go_sem]
            exact cL3 w1 w2 (lowN c)) rfl (by simp) Tryd.underlying82 el5 rfl rfl (by simp) (fun e he => by simp at he; rcases he with rfl | rfl | rfl <;> exact ⟨rfl, rfl⟩) (by simp; omega) (by simp; omega)) ?_
      have hb : [u8v (224 + c / 4096), u8v (128 + c / 64 % 64), u8v (128 + c % 64)] = R.data.toList.map AV.u8 := by
        rw [hE]; simp only [List.map_cons, List.map_nil, u8_of (show 224 + c / 4096 < 256 by omega), u8_of (show 128 + c / 64 % 64 < 256 by omega), u8_of (show 128 + c % 64 < 256 by omega)]
      have hlen : (l ++ R.data.toList).length = l.length + 3 := by rw [hE]; simp
      refine goD ?_
      exact RetH.same rfl (by rw [hlen]; rfl) (by rw [hb]; simp [bldB])
    · rw [q]
      refine goD ?_
      refine ifF ?_
      refine goD ?_
      rw [q2, h6]
      refine goD ?_
      refine ifT ?_
      refine goD ?_
      refine ARun.p1 rfl rfl (pl_append (b := 0) (tot := l.length) (es := [u8v (224 + c / 4096), u8v (128 + c / 64 % 64), u8v (128 + c % 64)]) (by simp +decide only [go_sem] <;> rfl) (by
            simp +decide only [go_sem]
            exact cL3 w1 w2 (lowN c)) rfl (by simp) Tryd.underlying82 el5 rfl rfl (by simp) (fun e he => by simp at he; rcases he with rfl | rfl | rfl <;> exact ⟨rfl, rfl⟩) (by simp; omega) (by simp; omega)) ?_
      have hb : [u8v (224 + c / 4096), u8v (128 + c / 64 % 64), u8v (128 + c % 64)] = R.data.toList.map AV.u8 := by
        rw [hE]; simp only [List.map_cons, List.map_nil, u8_of (show 224 + c / 4096 < 256 by omega), u8_of (show 128 + c / 64 % 64 < 256 by omega), u8_of (show 128 + c % 64 < 256 by omega)]
      have hlen : (l ++ R.data.toList).length = l.length + 3 := by rw [hE]; simp
      refine goD ?_
      exact RetH.same rfl (by rw [hlen]; rfl) (by rw [hb]; simp [bldB])
  · rw [if_neg h2] at hE
    have w1 : IntKind.u8.wrap ((BitVec.ofInt 8 240 ||| BitVec.ofInt 8 (IntKind.u8.wrap ((c : Int).fdiv (2 ^ min (Int.toNat 18) 32)))).toNat : Int) = ((240 + c / 262144 : Nat) : Int) := by
      rw [shr18r, u8w (show c / 262144 < 256 by omega)]; exact orNu 30 3 _ (by omega) (by omega)
    have w2 : IntKind.u8.wrap ((BitVec.ofInt 8 128 ||| BitVec.ofInt 8 (IntKind.u8.wrap ((BitVec.ofInt 8 (IntKind.u8.wrap ((c : Int).fdiv (2 ^ min (Int.toNat 12) 32))) &&& BitVec.ofInt 8 63).toNat : Int))).toNat : Int) = ((128 + c / 4096 % 64 : Nat) : Int) := by
      rw [shr12r]; exact lowN _
    have w3 : IntKind.u8.wrap ((BitVec.ofInt 8 128 ||| BitVec.ofInt 8 (IntKind.u8.wrap ((BitVec.ofInt 8 (IntKind.u8.wrap ((c : Int).fdiv (2 ^ min (Int.toNat 6) 32))) &&& BitVec.ofInt 8 63).toNat : Int))).toNat : Int) = ((128 + c / 64 % 64 : Nat) : Int) := by
      rw [shr6r]; exact lowN _
    rw [decide_eq_false (show ¬ (c : Int) < 55296 by omega)]
    refine goD ?_
    refine ifF ?_
    refine goD ?_
    rw [decide_eq_true (show (57343 : Int) < c by omega), decide_eq_false (show ¬ (c : Int) ≤ 65535 by omega)]
    refine goD ?_
    refine ifF ?_
    refine goD ?_
    rw [decide_eq_true (show (c : Int) ≤ 1114111 by omega), decide_eq_true (show (65535 : Int) < c by omega)]
    refine goD ?_
    refine ifT ?_
    refine goD ?_
    refine ARun.p1 rfl rfl (pl_append (b := 0) (tot := l.length) (es := [u8v (240 + c / 262144), u8v (128 + c / 4096 % 64), u8v (128 + c / 64 % 64), u8v (128 + c % 64)]) (by simp +decide only [go_sem] <;> rfl) (by
      simp +decide only [go_sem]
      exact cL4 w1 w2 w3 (lowN c)) rfl (by simp) Tryd.underlying82 el5 rfl rfl (by simp) (fun e he => by simp at he; rcases he with rfl | rfl | rfl | rfl <;> exact ⟨rfl, rfl⟩) (by simp; omega) (by simp; omega)) ?_
    have hb : [u8v (240 + c / 262144), u8v (128 + c / 4096 % 64), u8v (128 + c / 64 % 64), u8v (128 + c % 64)] = R.data.toList.map AV.u8 := by
      rw [hE]; simp only [List.map_cons, List.map_nil, u8_of (show 240 + c / 262144 < 256 by omega), u8_of (show 128 + c / 4096 % 64 < 256 by omega), u8_of (show 128 + c / 64 % 64 < 256 by omega), u8_of (show 128 + c % 64 < 256 by omega)]
    have hlen : (l ++ R.data.toList).length = l.length + 4 := by rw [hE]; simp
    refine goD ?_
    exact RetH.same rfl (by rw [hlen]; rfl) (by rw [hb]; simp [bldB])
theorem enc_small {c : Nat} (hv : Utf8.valid (c : Int) = true) (h : c < 128) : Utf8.encode (c : Int) = ⟨#[UInt8.ofNat c]⟩ := by
  rw [enc_e hv, if_pos (by omega)]
theorem cL1 {a : Int} {c : Nat} (h1 : a = c) : AV.lst [.base (.int .u8 a)] = .lst [u8v c] := by rw [h1]
theorem appendRune_ok (c : Nat) (hv : Utf8.valid (c : Int) = true) (l : List UInt8) (hl : l.length ≤ 1000000) :
    FnH Tryd.prog 111 [.own 0 l.length 0 l.length, r32 c] [bB l] (.own 0 (l ++ (Utf8.encode (c : Int)).data.toList).length 0 (l ++ (Utf8.encode (c : Int)).data.toList).length) [bB (l ++ (Utf8.encode (c : Int)).data.toList)] := by
  have hc := (val_iff c).1 hv
  have i1 := fun h => appendNon_ok c hv h l hl
  have hE := fun h => enc_small (c := c) hv h
  generalize Utf8.encode (c : Int) = R at *
  refine FnH.intro' [(0, .own 0 l.length 0 l.length), (1, r32 c)] 2 16 1 Tryd.func111 (by kernel_rfl) rfl rfl rfl rfl rfl rfl ?_
  refine goD ?_
  rw [wrapu (show c < 4294967296 by omega)]
  refine ifA (fun h1 => ?_) (fun h1 => ?_)
  · have h1 := of_decide_eq_true h1
    have hE := hE (by omega)
    refine goD ?_
    refine ARun.p1 rfl rfl (pl_append (b := 0) (tot := l.length) (es := [u8v c]) (by simp +decide only [go_sem] <;> rfl) (by
      simp +decide only [go_sem]
      exact cL1 (u8w (by omega))) rfl (by simp) Tryd.underlying82 el5 rfl rfl (by simp) (fun e he => by simp at he; subst he; exact ⟨rfl, rfl⟩) (by simp; omega) (by simp; omega)) ?_
    have hb : [u8v c] = R.data.toList.map AV.u8 := by
      rw [hE]; simp only [List.map_cons, List.map_nil, u8_of (show c < 256 by omega)]
    have hlen : (l ++ R.data.toList).length = l.length + 1 := by rw [hE]; simp
    refine goD ?_
    exact RetH.same rfl (by rw [hlen]; rfl) (by rw [hb]; simp [bldB])
  have h1 := of_decide_eq_false h1
  have i1 := i1 (by omega)
  refine goD ?_
  refine ARun.p1 rfl rfl (pl_callH (e := [0]) (d' := .own 0 (l ++ R.data.toList).length 0 (l ++ R.data.toList).length) i1 (CallE.put1 (b := 0) rfl (PuBl_B _) (PuBl_B _)) rfl (by simp +decide only [go_sem] <;> rfl) (by simp +decide only [go_sem, List.map]; exact ⟨.own rfl, .pu (.base _), trivial⟩) (.own rfl)) ?_
  refine goD ?_
  exact RetH.same rfl rfl rfl
theorem len_app (l : List UInt8) (R : ByteArray) : (l ++ R.data.toList).length = l.length + R.size := by
  rw [List.length_append, Array.length_toList]; cases R; rfl
theorem writeRune_ok (u : Bool) (c : Nat) (hv : Utf8.valid (c : Int) = true) (l : List UInt8) (hl : l.length ≤ 1000000) :
    FnH Tryd.prog 92 [.ptr 0 1 0 0, r32 c] [bS u l.length, bB l] (.tup [.int (Utf8.encode (c : Int)).size, .base .nilIface]) [bS true (l ++ (Utf8.encode (c : Int)).data.toList).length, bB (l ++ (Utf8.encode (c : Int)).data.toList)] := by
  have i0 := copyCheck_ok u l
  have i1 := appendRune_ok c hv l hl
  have hsz : (Utf8.encode (c : Int)).size ≤ 4 := enc_size c
  generalize Utf8.encode (c : Int) = R at *
  have hlen := len_app l R
  refine FnH.intro' [(0, .ptr 0 1 0 0), (1, r32 c)] 2 30 2 Tryd.func92 (by kernel_rfl) rfl rfl rfl rfl rfl rfl ?_
  refine goD ?_
  refine ARun.p1 rfl rfl (pl_callBld i0 rfl rfl (by decide) (PuB_bld _ _) (PuB_bld _ _) rfl rfl rfl rfl rfl (by simp) (.tup (by simp))) ?_
  refine goD ?_
  refine ARun.p1 rfl rfl (pl_callH (e := [1]) (d' := .own 1 (l ++ R.data.toList).length 0 (l ++ R.data.toList).length) i1 (CallE.put1 (b := 1) rfl (PuBl_B _) (PuBl_B _)) rfl (by simp +decide only [go_sem] <;> rfl) (by simp +decide only [go_sem, List.map]; exact ⟨.own rfl, .pu (.base _), trivial⟩) (.own rfl)) ?_
  simp only [List.set_cons_succ, List.set_cons_zero]
  refine goD ?_
  rw [wrap_id (by omega) (by omega), show ((l ++ R.data.toList).length : Int) - l.length = R.size by omega]
  exact RetH.same rfl rfl (by simp only [bS, bB, bldS, bldB, pA, if_true])
end Go.Ab
