/- Still more rules for use. -/
import Derived.Test.YthjeoagadjdilaaAbR
set_option linter.unusedSimpArgs false
set_option linter.unusedVariables false
namespace Go.Ab
open Go Go.RowKit
set_option linter.unusedVariables false

section
variable {P : Program} {H : List ABlk}
theorem Lend.clo {f : FuncId} {cs ds : List AV} (hl : cs.length = ds.length) (h : ∀ (j : Nat) (c d : AV), cs[j]? = some c → ds[j]? = some d → Lend H c d) : Lend H (.clo f cs) (.clo f ds) := fun w0 w O ι u hs hu => by
  cases hu with
  | clo f cs arr hlen hh =>
  refine .clo f ds arr (hlen.trans hl) fun j d u hd hu => ?_
  have hj : j < cs.length := by rw [hl]; exact (List.getElem?_eq_some_iff.1 hd).1
  exact h j _ d (List.getElem?_eq_getElem hj) hd w0 w O ι u hs (hh j _ u (List.getElem?_eq_getElem hj) hu)

/-- all entries, one by one -/
def LendL (H : List ABlk) : List AV → List AV → Prop
  | [], [] => True
  | a :: l, b :: m => Lend H a b ∧ LendL H l m
  | _, _ => False
theorem LendL.len : ∀ {l m : List AV}, LendL H l m → l.length = m.length
  | [], [], _ => rfl
  | _ :: l, _ :: m, h => by simp [LendL.len h.2]
theorem LendL.get : ∀ {l m : List AV}, LendL H l m → ∀ (j : Nat) (a b : AV), l[j]? = some a → m[j]? = some b → Lend H a b
  | _ :: l, _ :: m, h, 0, a, b, h1, h2 => by cases h1; cases h2; exact h.1
  | _ :: l, _ :: m, h, j + 1, a, b, h1, h2 => LendL.get h.2 j a b h1 h2

theorem ql_callM {ρ : Operand → AV} {c : Call} {fx : Operand} {f : FuncId} {caps args : List AV} {d : AV} (hc : c.callee = .value fx)
    (hf : ρ fx = .clo f caps) (hl : LendL H (c.args.toList.map ρ ++ caps) args) (hd : Sc d) (h : Fn P f args d) : QL P H ρ (.call c) d :=
  ql_callL hc hf hl.len hl.get hd h

theorem Lend.iptr {b tot i off : Nat} {blk : ABlk} {e d : AV} (h1 : H[b]? = some blk) (ht : blk.es.length = tot) (he : blk.es[i]? = some e)
    (hl : LendL H e.cells d.cells) : Lend H (.ptr b tot i off) (.iptr d off) := .ptr h1 ht he hl.len hl.get
theorem Lend.agg' {cs ds : List AV} (h : LendL H cs ds) : Lend H (.agg cs) (.agg ds) := .agg h.len h.get
theorem Lend.clo' {f : FuncId} {cs ds : List AV} (h : LendL H cs ds) : Lend H (.clo f cs) (.clo f ds) := .clo h.len h.get

/-- an element of data: its number a natural one -/
theorem ql_idx {α : Type} {ρ : Operand → AV} {t el : TypeId} {x i : Operand} {k : IntKind} {n : Int} {l : List α} {f : α → AV} (hx : ρ x = .lst (l.map f)) (hi : ρ i = .base (.int k n)) (ht : P.underlying t = some (.slice el))
    (h0 : 0 ≤ n) (he : n.toNat < l.length) (hsz : szTy P el = some (f l[n.toNat]).cells.length) : QL P H ρ (.indexAddr t x i) (.iptr (f (l[n.toNat]'he)) 0) :=
  ql_indexAddr_lst hx hi ht h0 (by rw [List.getElem?_map, List.getElem?_eq_getElem he]; rfl) hsz
end
end Go.Ab
namespace Go.Ab
open Go Go.RowKit
theorem AWp.learnV {P : Program} {n : Nat} {Q : Exit → ASt → Prop} {s : ASt} {c : Code} (t : Nat) {a : AV} {Ψ : Prop} (ha : lk s.env t = a) (h : ∀ (w : World) (O : Nat → Prop) (ι : Nat → Option Nat) (H : List ABlk) (u : Value), VR w O ι H a u → Ψ)
    (k : Ψ → AWp P n c Q s) : AWp P n c Q s := by
  intro w0 O ι a w hs
  have h1 := hs.vals t
  rw [ha] at h1
  exact k (h _ _ _ _ _ h1) w0 O ι a w hs
theorem VR.lst_len {w : World} {O : Nat → Prop} {ι : Nat → Option Nat} {H : List ABlk} {es : List AV} {u : Value} (h : VR w O ι H (.lst es) u) : es.length ≤ 9223372036854775807 := by
  cases h with
  | lnil => simp
  | lst es a n cap s val hn hcap hmax hlen hspot hc hv => simp only [maxLen] at hmax; omega
theorem VR.lst_el {w : World} {O : Nat → Prop} {ι : Nat → Option Nat} {H : List ABlk} {es : List AV} {u : Value} (h : VR w O ι H (.lst es) u) {e c : AV} (he : e ∈ es) {j : Nat} (hj : e.cells[j]? = some c) : ∃ v, VR w O ι H c v := by
  cases h with
  | lnil => cases he
  | lst es a n cap s val hn hcap hmax hlen hspot hc hv =>
    obtain ⟨i, hi, rfl⟩ := List.mem_iff_getElem.1 he
    exact ⟨_, hv i j _ c (List.getElem?_eq_getElem hi) hj⟩
theorem VR.agg_el {w : World} {O : Nat → Prop} {ι : Nat → Option Nat} {H : List ABlk} {cs : List AV} {u : Value} (h : VR w O ι H (.agg cs) u) {c : AV} {j : Nat} (hj : cs[j]? = some c) : ∃ v, VR w O ι H c v := by
  cases h with
  | agg cs arr hlen hh =>
    have : j < arr.size := by rw [hlen]; exact (List.getElem?_eq_some_iff.1 hj).1
    exact ⟨_, hh j c _ hj (Array.getElem?_eq_getElem this)⟩
end Go.Ab
namespace Go.Ab
attribute [go_sem] decide_true decide_false cond_true cond_false eq_self
end Go.Ab
namespace Go.Ab
open Go Go.RowKit
attribute [go_sem] Int.natCast_nonneg Int.toNat_natCast
section
variable {P : Program} {H : List ABlk} {α : Type} {f : α → AV} {l : List α}
theorem ql_slice_pre {ρ : Operand → AV} {t el : TypeId} {x y : Operand} {k : IntKind} {n : Int} {sz : Nat} (hx : ρ x = .lst (l.map f)) (hy : ρ y = .base (.int k n)) (ht : P.underlying t = some (.slice el)) (h0 : 0 ≤ n)
    (hh : n.toNat ≤ l.length) (hsz : szTy P el = some sz) (hes : ∀ e, (f e).cells.length = sz) : QL P H ρ (.slice t x none (some y) none) (.lst ((l.take n.toNat).map f)) := by
  have := ql_slice_lst (P := P) (H := H) (lo := none) (hi := some y) (l := 0) (h := n.toNat) hx ht rfl (by simp [bnd, hy, h0]) (Nat.zero_le _) (by simpa using hh) hsz (by simpa using fun e _ => hes e)
  simpa [List.map_take] using this
theorem ql_slice_suf {ρ : Operand → AV} {t el : TypeId} {x y : Operand} {k : IntKind} {n : Int} {sz : Nat} (hx : ρ x = .lst (l.map f)) (hy : ρ y = .base (.int k n)) (ht : P.underlying t = some (.slice el)) (h0 : 0 ≤ n)
    (hh : n.toNat ≤ l.length) (hsz : szTy P el = some sz) (hes : ∀ e, (f e).cells.length = sz) : QL P H ρ (.slice t x (some y) none none) (.lst ((l.drop n.toNat).map f)) := by
  have := ql_slice_lst (P := P) (H := H) (lo := some y) (hi := none) (l := n.toNat) (h := l.length) hx ht (by simp [bnd, hy, h0]) (by simp [bnd]) (by simpa using hh) (by simp) hsz (by simpa using fun e _ => hes e)
  rw [List.take_of_length_le (by simp)] at this
  simpa [List.map_drop] using this
end
end Go.Ab
namespace Go.Ab
open Go Go.RowKit
section
variable {P : Program} {H : List ABlk}
theorem ql_callC {ρ : Operand → AV} {c : Call} {fx : Operand} {f : FuncId} {caps as : List AV} {d : AV} (h : Fn P f as d) (hc : c.callee = .value fx)
    (hf : ρ fx = .clo f caps) (ha : c.args.toList.map ρ ++ caps = as) (hp : ∀ a ∈ as, Pu a) : QL P H ρ (.call c) d :=
  ql_call hc hf (by rw [ha]; exact hp) (by rw [ha]; exact h)
end
attribute [simp] Pu.base Pu_mapInt
end Go.Ab
namespace Go.Ab
open Go Go.RowKit
/-- the element of that number, or d -/
def nth {α : Type} (d : α) (l : List α) (n : Int) : α := (l[n.toNat]?).getD d
theorem nth_eq {α : Type} {d : α} {l : List α} {n : Nat} (h : n < l.length) : nth d l n = l[n] := by simp [nth, h]
theorem nth_eqI {α : Type} {d : α} {l : List α} {n : Int} (h : n.toNat < l.length) : nth d l n = l[n.toNat] := by simp [nth, h]
section
variable {P : Program} {H : List ABlk}
theorem ql_idxD {α : Type} {ρ : Operand → AV} {t el : TypeId} {x i : Operand} {k : IntKind} {n : Int} {l : List α} {f : α → AV} (d : α) (hx : ρ x = .lst (l.map f)) (hi : ρ i = .base (.int k n)) (ht : P.underlying t = some (.slice el))
    (h0 : 0 ≤ n) (he : n < l.length) (hsz : szTy P el = some (f (nth d l n)).cells.length) : QL P H ρ (.indexAddr t x i) (.iptr (f (nth d l n)) 0) := by
  have he' : n.toNat < l.length := by omega
  rw [nth_eqI he'] at hsz ⊢
  exact ql_idx hx hi ht h0 he' hsz
end
end Go.Ab
namespace Go.Ab
attribute [go_sem] Nat.zero_add Nat.add_zero
end Go.Ab
namespace Go.Ab
theorem beqI (a b : Int) : (a == b) = decide (a = b) := by by_cases h : a = b <;> simp [h]
theorem beqB (a b : Bool) : (a == b) = decide (a = b) := by cases a <;> cases b <;> rfl
attribute [go_sem] beqI beqB
end Go.Ab
namespace Go.Ab
theorem Ret.bool {P : Program} {s : ASt} {rs : List ResultVar} {b b' : Bool} (h : resVals P s rs = some [AV.bool b']) (he : b' = true ↔ b = true) : Ret P rs (.bool b) s :=
  Ret.data h (by rw [Bool.eq_iff_iff.2 he]; rfl) (.base _)
end Go.Ab
namespace Go.Ab
/-- two ways meet: what is kept is written out -/
theorem AWp.join {P : Program} {n : Nat} {c d : Code} {Q : Exit → ASt → Prop} {s : ASt} (S2 : ASt) (h1 : AWp P n c (thenQ (fun s' => Wk s' S2) Q) s) (h2 : AWp P n d Q S2) : AWp P n c (thenQ (AWp P n d Q) Q) s :=
  h1.mono fun e s' hq => by
    cases e with
    | normal => exact h2.weaken hq
    | _ => exact hq
theorem Wk.env2 {E E2 : Env} {H H2 : List ABlk} (hH : H = H2) (h : WkE E E2) : Wk ⟨E, H⟩ ⟨E2, H2⟩ := by subst hH; exact .env' h
end Go.Ab
namespace Go.Ab
@[simp] theorem Pu_int1 (x : Int) : Pu (.lst [.int x]) := Pu_mapInt [x]
@[simp] theorem Pu_int2 (x y : Int) : Pu (.lst [.int x, .int y]) := Pu_mapInt [x, y]
end Go.Ab
namespace Go.Ab
theorem LendL.pu {H : List ABlk} : ∀ {cs : List AV}, (∀ c ∈ cs, Pu c) → LendL H cs cs
  | [], _ => trivial
  | c :: l, h => ⟨.pu (h c (by simp)), LendL.pu fun x hx => h x (by simp [hx])⟩
end Go.Ab
