/- The abstract values and the relation between them and Go values in a world. -/
import Derived.WalkKit
import Derived.Orders
set_option linter.unusedSimpArgs false
set_option linter.unusedVariables false
namespace Go.Ab
open Go Go.RowKit
set_option linter.unusedVariables false

inductive AV where
  | base (v : Value)
  | lst (es : List AV)
  | agg (cs : List AV)
  | tup (vs : List AV)
  | iptr (e : AV) (off : Nat)
  | own (b tot off len : Nat)
  | ptr (b tot i off : Nat)
  | clo (f : FuncId) (caps : List AV)
  | under (c : Bool) (a : AV)
  | bad
  deriving Inhabited

def AV.cells : AV → List AV
  | .agg cs => cs
  | a => [a]

structure ABlk where
  ty : TypeId
  sz : Nat
  es : List AV

/-- the blocks that nobody else relies on -/
def rng (ι : Nat → Option Nat) (H : List ABlk) (x : Nat) : Prop := ∃ b, b < H.length ∧ ι b = some x

inductive VR (w : World) (O : Nat → Prop) (ι : Nat → Option Nat) (H : List ABlk) : AV → Value → Prop
  | base (v : Value) : VR w O ι H (.base v) v
  | lnil : VR w O ι H (.lst []) (.slice none 0 0)
  | lst (es : List AV) (a : Addr) (n cap s : Nat) (val : Nat → Nat → Value) (hn : n = es.length) (hcap : n ≤ cap) (hmax : n ≤ maxLen)
      (hlen : ∀ e ∈ es, e.cells.length = s)
      (hspot : ∀ e ∈ es, a.spot = none)
      (hc : ∀ (i j : Nat) (e c : AV), es[i]? = some e → e.cells[j]? = some c → ¬ O a.block ∧ w.cell? ⟨a.block, a.off + i * s + j, none⟩ = some (val i j))
      (hv : ∀ (i j : Nat) (e c : AV), es[i]? = some e → e.cells[j]? = some c → VR w O ι H c (val i j)) :
      VR w O ι H (.lst es) (.slice (some a) n cap)
  | agg (cs : List AV) (arr : Array Value) (hlen : arr.size = cs.length)
      (h : ∀ (j : Nat) (c : AV) (u : Value), cs[j]? = some c → arr[j]? = some u → VR w O ι H c u) : VR w O ι H (.agg cs) (.agg arr)
  | tup (cs : List AV) (arr : Array Value) (hlen : arr.size = cs.length)
      (h : ∀ (j : Nat) (c : AV) (u : Value), cs[j]? = some c → arr[j]? = some u → VR w O ι H c u) : VR w O ι H (.tup cs) (.tuple arr)
  | clo (f : FuncId) (cs : List AV) (arr : Array Value) (hlen : arr.size = cs.length)
      (h : ∀ (j : Nat) (c : AV) (u : Value), cs[j]? = some c → arr[j]? = some u → VR w O ι H c u) : VR w O ι H (.clo f cs) (.func (.func f) #[] arr)
  | iptr (e : AV) (off : Nat) (a : Addr) (val : Nat → Value) (hs : a.spot = none) (hoff : off ≤ a.off)
      (hc : ∀ (j : Nat) (c : AV), e.cells[j]? = some c → ¬ O a.block ∧ w.cell? ⟨a.block, a.off - off + j, none⟩ = some (val j))
      (hv : ∀ (j : Nat) (c : AV), e.cells[j]? = some c → VR w O ι H c (val j)) :
      VR w O ι H (.iptr e off) (.pointer (some a))
  | staleOwn (b tot off len : Nat) (blk : ABlk) (a : Option Addr) (n c : Nat) (hb : H[b]? = some blk) (h : tot < blk.es.length) : VR w O ι H (.own b tot off len) (.slice a n c)
  | stalePtr (b tot i off : Nat) (blk : ABlk) (a : Option Addr) (hb : H[b]? = some blk) (h : tot < blk.es.length) : VR w O ι H (.ptr b tot i off) (.pointer a)
  | ownNil (b : Nat) (blk : ABlk) (h : H[b]? = some blk) (he : blk.es = []) (hi : ι b = none) : VR w O ι H (.own b 0 0 0) (.slice none 0 0)
  | own (b tot off len : Nat) (blk : ABlk) (x n cap : Nat) (a : Addr) (hb : H[b]? = some blk) (ht : blk.es.length = tot) (hi : ι b = some x) (hn : n = len)
      (hl : off + len ≤ tot) (hcap : len ≤ cap)
      (ha : cap ≠ 0 ∨ off = 0 → a = ⟨x, off * blk.sz, none⟩ ∧ cap ≤ maxLen ∧ ∃ c ty fz, w.heap[x]? = some (.cells c ty fz) ∧ (off + cap) * blk.sz = c.size) :
      VR w O ι H (.own b tot off len) (.slice (some a) n cap)
  | ptr (b tot i off : Nat) (blk : ABlk) (x : Nat) (hb : H[b]? = some blk) (ht : blk.es.length = tot) (hi : ι b = some x) :
      VR w O ι H (.ptr b tot i off) (.pointer (some ⟨x, i * blk.sz + off, none⟩))
  | under (c : Bool) (a : AV) (v : Value) (h0 : c = false → v = undef) (h : c = true → VR w O ι H a v) : VR w O ι H (.under c a) v
  | bad (v : Value) : VR w O ι H .bad v

/-- how a world and an abstract heap go on: what values need to be kept -/
structure Goes (w : World) (O : Nat → Prop) (ι : Nat → Option Nat) (H : List ABlk) (w' : World) (O' : Nat → Prop) (ι' : Nat → Option Nat) (H' : List ABlk) : Prop where
  cell : ∀ (p : Addr) (u : Value), ¬ O p.block → w.cell? p = some u → w'.cell? p = some u
  out : ∀ (p : Addr) (u : Value), ¬ O p.block → w.cell? p = some u → ¬ O' p.block
  blk : ∀ (b : Nat) (blk : ABlk), H[b]? = some blk → ∃ blk', H'[b]? = some blk' ∧ blk.es.length ≤ blk'.es.length ∧ (blk'.es.length = blk.es.length → blk'.sz = blk.sz ∧ ι' b = ι b)
  size : ∀ (b x : Nat) (blk blk' : ABlk) (c : Array Value) (ty : TypeId) (fz : Nat × Nat), H[b]? = some blk → H'[b]? = some blk' → blk'.es.length = blk.es.length → ι b = some x → w.heap[x]? = some (.cells c ty fz) →
    ∃ c' ty' fz', w'.heap[x]? = some (.cells c' ty' fz') ∧ c'.size = c.size

theorem VR.mono {w w' : World} {O O' : Nat → Prop} {ι ι' : Nat → Option Nat} {H H' : List ABlk} {a : AV} {v : Value}
    (h : VR w O ι H a v) (g : Goes w O ι H w' O' ι' H') : VR w' O' ι' H' a v := by
  induction h with
  | base v => exact .base v
  | lnil => exact .lnil
  | lst es a n cap s val hn hcap hmax hlen hspot hc hv ih =>
    refine .lst es a n cap s val hn hcap hmax hlen hspot (fun i j e c he hj => ?_) (fun i j e c he hj => ih i j e c he hj)
    obtain ⟨h1, h2⟩ := hc i j e c he hj
    exact ⟨g.out ⟨a.block, _, none⟩ _ h1 h2, g.cell _ _ h1 h2⟩
  | agg cs arr hlen h ih => exact .agg cs arr hlen ih
  | tup cs arr hlen h ih => exact .tup cs arr hlen ih
  | clo f cs arr hlen h ih => exact .clo f cs arr hlen ih
  | iptr e off a val hs hoff hc hv ih =>
    refine .iptr e off a val hs hoff (fun j c hj => ?_) ih
    obtain ⟨h1, h2⟩ := hc j c hj
    exact ⟨g.out ⟨a.block, _, none⟩ _ h1 h2, g.cell _ _ h1 h2⟩
  | staleOwn b tot off len blk a n c hb h =>
    obtain ⟨blk', hb', hl, _⟩ := g.blk b blk hb
    exact .staleOwn _ _ _ _ blk' _ _ _ hb' (by omega)
  | stalePtr b tot i off blk a hb h =>
    obtain ⟨blk', hb', hl, _⟩ := g.blk b blk hb
    exact .stalePtr _ _ _ _ blk' _ hb' (by omega)
  | ownNil b blk h he hi =>
    obtain ⟨blk', hb', hl, hs⟩ := g.blk b blk h
    by_cases e : blk'.es.length = blk.es.length
    · obtain ⟨_, h3⟩ := hs e
      refine .ownNil b blk' hb' ?_ (h3.trans hi)
      rw [he] at e
      exact List.eq_nil_of_length_eq_zero e
    · exact .staleOwn _ _ _ _ blk' _ _ _ hb' (by omega)
  | own b tot off len blk x n cap a hb ht hi hn hl hcap ha =>
    obtain ⟨blk', hb', hle, hs⟩ := g.blk b blk hb
    by_cases e : blk'.es.length = blk.es.length
    · obtain ⟨h2, h3⟩ := hs e
      refine .own b tot off len blk' x n cap a hb' (e.trans ht) (h3.trans hi) hn hl hcap fun hc => ?_
      obtain ⟨h4, h9, c, ty, fz, h5, h6⟩ := ha hc
      obtain ⟨c', ty', fz', h7, h8⟩ := g.size b x blk blk' c ty fz hb hb' e hi h5
      rw [h2]
      exact ⟨h4, h9, c', ty', fz', h7, h6.trans h8.symm⟩
    · exact .staleOwn _ _ _ _ blk' _ _ _ hb' (by omega)
  | ptr b tot i off blk x hb ht hi =>
    obtain ⟨blk', hb', hle, hs⟩ := g.blk b blk hb
    by_cases e : blk'.es.length = blk.es.length
    · obtain ⟨h2, h3⟩ := hs e
      have := VR.ptr (w := w') (O := O') b tot i off blk' x hb' (e.trans ht) (h3.trans hi)
      rwa [h2] at this
    · exact .stalePtr _ _ _ _ blk' _ hb' (by omega)
  | under c a v h0 h ih => exact .under c a v h0 ih
  | bad v => exact .bad v

/-- the blocks that a value must stay clear of: the caller's, and the function's own -/
def OO (O : Nat → Prop) (ι : Nat → Option Nat) (H : List ABlk) (x : Nat) : Prop := O x ∨ rng ι H x

/-- an own block in memory -/
structure BR (w : World) (O : Nat → Prop) (ι : Nat → Option Nat) (H : List ABlk) (blk : ABlk) (x : Nat) : Prop where
  row : ∃ c, w.heap[x]? = some (.cells c blk.ty (0, 0)) ∧ blk.es.length * blk.sz ≤ c.size ∧
    (∀ e ∈ blk.es, e.cells.length = blk.sz) ∧
    ∀ (i j : Nat) (e d : AV), blk.es[i]? = some e → e.cells[j]? = some d → ∃ u, c[i * blk.sz + j]? = some u ∧ VR w O ι H d u

/-- the situation in which an operation runs: the function's own memory is as the abstract heap says, all else is as it was when the call began -/
structure Sit (w0 : World) (O : Nat → Prop) (ι : Nat → Option Nat) (H : List ABlk) (w : World) : Prop where
  heap : ∀ (b : Nat) (blk : ABlk) (x : Nat), H[b]? = some blk → ι b = some x → w0.heap.size ≤ x ∧ BR w (OO O ι H) ι H blk x
  empt : ∀ (b : Nat) (blk : ABlk), H[b]? = some blk → ι b = none → blk.es = []
  inj : ∀ (b b' x : Nat), b < H.length → b' < H.length → ι b = some x → ι b' = some x → b = b'
  below : Below w0.heap.size w0 w
  old : ∀ x, O x → x < w0.heap.size

/-- the environment: what the slots hold -/
abbrev Env := List (Nat × AV)
def lk : Env → Nat → AV
  | [], _ => .bad
  | (k, v) :: r, t => if k = t then v else lk r t

structure ASt where
  env : Env
  H : List ABlk

/-- a constant -/
def cv : Value → AV
  | .agg cs => .agg (cs.toList.map .base)
  | v => .base v
theorem VR.cv (w : World) (O : Nat → Prop) (ι : Nat → Option Nat) (H : List ABlk) (v : Value) : VR w O ι H (cv v) v := by
  cases v <;> first
    | exact .base _
    | (refine .agg _ _ (by simp) fun j c u hc hu => ?_
       simp only [List.getElem?_map, Array.getElem?_toList, hu, Option.map_some] at hc
       injection hc with hc; subst hc; exact .base _)

def ev (E : Env) : Operand → AV
  | .tmp t => lk E t
  | .const v => cv v
  | .global g => .base (.pointer (some ⟨g, 0, none⟩))
  | .func f => .clo f []

structure SR (n : Nat) (w0 : World) (O : Nat → Prop) (s : ASt) (ι : Nat → Option Nat) (a : Act) (w : World) : Prop where
  sit : Sit w0 O ι s.H w
  defers : a.defers = []
  size : a.tmps.size = n
  vals : ∀ t, VR w (OO O ι s.H) ι s.H (lk s.env t) (a.tmps.getD t undef)

theorem VR.ev {w : World} {O : Nat → Prop} {ι : Nat → Option Nat} {H : List ABlk} {E : Env} {a : Act}
    (h : ∀ t, VR w O ι H (lk E t) (a.tmps.getD t undef)) (x : Operand) : VR w O ι H (ev E x) (a.eval x) := by
  cases x with
  | tmp t => exact h t
  | const v => exact VR.cv _ _ _ _ v
  | global g => exact .base _
  | func f => exact .clo f [] #[] rfl (by simp)

end Go.Ab
