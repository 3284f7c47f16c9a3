/- The abstract values and the relation between them and Go values in a world. -/
import Derived.WalkKit
import Derived.Orders
import Derived.Deep.MidRow
import Derived.WalkLawsBesides
set_option linter.unusedSimpArgs false
set_option linter.unusedVariables false
namespace Go.Ab
open Go Go.RowKit

inductive AV where
  | base (v : Value)
  | lst (es : List AV)
  | agg (cs : List AV)
  | tup (vs : List AV)
  | iptr (e : AV) (off : Nat)
  | own (b tot off len : Nat)
  | ptr (b tot i off : Nat)
  | clo (f : FuncId) (caps : List AV)
  | under (c : Bool) (a : AV)
  | anyb
  | view (b tot i off n : Nat)
  | mapv (b : Nat)
  | anyp
  | mem (cs : List (Addr × Value))
  | iterv (b : Nat)
  | clip (a : AV)
  | bad
  deriving Inhabited

def memSlot : Nat := 1000000
def AV.cells : AV → List AV
  | .agg cs => cs
  | a => [a]

structure ABlk where
  ty : TypeId
  sz : Nat
  es : List AV

def rng (ι : Nat → Option Nat) (H : List ABlk) (x : Nat) : Prop := ∃ b, b < H.length ∧ ι b = some x

inductive VR (w : World) (O : Nat → Prop) (ι : Nat → Option Nat) (H : List ABlk) : AV → Value → Prop
  | base (v : Value) : VR w O ι H (.base v) v
  | lnil : VR w O ι H (.lst []) (.slice none 0 0)
  | lst (es : List AV) (a : Addr) (n cap s : Nat) (val : Nat → Nat → Value) (hn : n = es.length) (hcap : n ≤ cap) (hmax : n ≤ maxLen)
      (hlen : ∀ e ∈ es, e.cells.length = s)
      (hspot : ∀ e ∈ es, a.spot = none)
      (hc : ∀ (i j : Nat) (e c : AV), es[i]? = some e → e.cells[j]? = some c → ¬ O a.block ∧ w.cell? ⟨a.block, a.off + i * s + j, none⟩ = some (val i j))
      (hv : ∀ (i j : Nat) (e c : AV), es[i]? = some e → e.cells[j]? = some c → VR w O ι H c (val i j)) :
      VR w O ι H (.lst es) (.slice (some a) n cap)
  | agg (cs : List AV) (arr : Array Value) (hlen : arr.size = cs.length)
      (h : ∀ (j : Nat) (c : AV) (u : Value), cs[j]? = some c → arr[j]? = some u → VR w O ι H c u) : VR w O ι H (.agg cs) (.agg arr)
  | tup (cs : List AV) (arr : Array Value) (hlen : arr.size = cs.length)
      (h : ∀ (j : Nat) (c : AV) (u : Value), cs[j]? = some c → arr[j]? = some u → VR w O ι H c u) : VR w O ι H (.tup cs) (.tuple arr)
  | clo (f : FuncId) (cs : List AV) (arr : Array Value) (hlen : arr.size = cs.length)
      (h : ∀ (j : Nat) (c : AV) (u : Value), cs[j]? = some c → arr[j]? = some u → VR w O ι H c u) : VR w O ι H (.clo f cs) (.func (.func f) #[] arr)
  | iptr (e : AV) (off : Nat) (a : Addr) (val : Nat → Value) (hs : a.spot = none) (hoff : off ≤ a.off)
      (hc : ∀ (j : Nat) (c : AV), e.cells[j]? = some c → ¬ O a.block ∧ w.cell? ⟨a.block, a.off - off + j, none⟩ = some (val j))
      (hv : ∀ (j : Nat) (c : AV), e.cells[j]? = some c → VR w O ι H c (val j)) :
      VR w O ι H (.iptr e off) (.pointer (some a))
  | staleOwn (b tot off len : Nat) (blk : ABlk) (a : Option Addr) (n c : Nat) (hb : H[b]? = some blk) (h : tot < blk.es.length) : VR w O ι H (.own b tot off len) (.slice a n c)
  | stalePtr (b tot i off : Nat) (blk : ABlk) (a : Option Addr) (hb : H[b]? = some blk) (h : tot < blk.es.length) : VR w O ι H (.ptr b tot i off) (.pointer a)
  | ownNil (b : Nat) (blk : ABlk) (h : H[b]? = some blk) (he : blk.es = []) (hi : ι b = none) : VR w O ι H (.own b 0 0 0) (.slice none 0 0)
  | own (b tot off len : Nat) (blk : ABlk) (x n cap : Nat) (a : Addr) (hb : H[b]? = some blk) (ht : blk.es.length = tot) (hi : ι b = some x) (hn : n = len)
      (hl : off + len ≤ tot) (hcap : len ≤ cap)
      (ha : cap ≠ 0 ∨ off = 0 → a = ⟨x, off * blk.sz, none⟩ ∧ cap ≤ maxLen ∧ ∃ c ty fz, w.heap[x]? = some (.cells c ty fz) ∧ (off + cap) * blk.sz = c.size) :
      VR w O ι H (.own b tot off len) (.slice (some a) n cap)
  | ptr (b tot i off : Nat) (blk : ABlk) (x : Nat) (hb : H[b]? = some blk) (ht : blk.es.length = tot) (hi : ι b = some x) (hcx : ∃ c ty fz, w.heap[x]? = some (.cells c ty fz)) :
      VR w O ι H (.ptr b tot i off) (.pointer (some ⟨x, i * blk.sz + off, none⟩))
  | under (c : Bool) (a : AV) (v : Value) (h0 : c = false → v = undef) (h : c = true → VR w O ι H a v) : VR w O ι H (.under c a) v
  | anyb (b : Bool) : VR w O ι H .anyb (.bool b)
  | staleView (b tot i off n : Nat) (blk : ABlk) (a : Option Addr) (m c : Nat) (hb : H[b]? = some blk) (h : tot < blk.es.length) : VR w O ι H (.view b tot i off n) (.slice a m c)
  | view (b tot i off n : Nat) (blk : ABlk) (x cap : Nat) (hb : H[b]? = some blk) (ht : blk.es.length = tot) (hi : ι b = some x) (hcx : ∃ c ty fz, w.heap[x]? = some (.cells c ty fz)) (hcap : n ≤ cap) (hmax : n ≤ maxLen) :
      VR w O ι H (.view b tot i off n) (.slice (some ⟨x, i * blk.sz + off, none⟩) n cap)
  | staleMap (b : Nat) (blk : ABlk) (a : Option Nat) (hb : H[b]? = some blk) (h : 1 < blk.es.length) : VR w O ι H (.mapv b) (.map a)
  | mapv (b : Nat) (blk : ABlk) (x : Nat) (hb : H[b]? = some blk) (ht : blk.es.length = 1) (hi : ι b = some x) : VR w O ι H (.mapv b) (.map (some x))
  | anyp (a : Option Addr) : VR w O ι H .anyp (.pointer a)
  | mem (cs : List (Addr × Value)) (v : Value) (h : ∀ p ∈ cs, ¬ O p.1.block ∧ w.cell? p.1 = some p.2) : VR w O ι H (.mem cs) v
  | staleIter (b : Nat) (blk : ABlk) (a : Option Addr) (hb : H[b]? = some blk) (h : 1 < blk.es.length) : VR w O ι H (.iterv b) (.pointer a)
  | iterv (b : Nat) (blk : ABlk) (x : Nat) (hb : H[b]? = some blk) (ht : blk.es.length = 1) (hi : ι b = some x) : VR w O ι H (.iterv b) (.pointer (some ⟨x, 0, none⟩))
  | clip (a : AV) (ad : Option Addr) (n : Nat) (h : VR w O ι H a (.slice ad n n)) : VR w O ι H (.clip a) (.slice ad n n)
  | bad (v : Value) : VR w O ι H .bad v

structure Grow (w : World) (ι : Nat → Option Nat) (H : List ABlk) (w' : World) (ι' : Nat → Option Nat) (H' : List ABlk) : Prop where
  blk : ∀ (b : Nat) (blk : ABlk), H[b]? = some blk → ∃ blk', H'[b]? = some blk' ∧ blk.es.length ≤ blk'.es.length ∧ (blk'.es.length = blk.es.length → blk'.sz = blk.sz ∧ ι' b = ι b)
  size : ∀ (b x : Nat) (blk blk' : ABlk) (c : Array Value) (ty : TypeId) (fz : Nat × Nat), H[b]? = some blk → H'[b]? = some blk' → blk'.es.length = blk.es.length → ι b = some x → w.heap[x]? = some (.cells c ty fz) →
    ∃ c' ty' fz', w'.heap[x]? = some (.cells c' ty' fz') ∧ c'.size = c.size
theorem Grow.refl (w : World) (ι : Nat → Option Nat) (H : List ABlk) : Grow w ι H w ι H :=
  ⟨fun b blk h => ⟨blk, h, Nat.le_refl _, fun _ => ⟨rfl, rfl⟩⟩, fun b x blk blk' c ty fz _ _ _ _ h => ⟨c, ty, fz, h, rfl⟩⟩
theorem Grow.trans {w1 w2 w3 : World} {ι1 ι2 ι3 : Nat → Option Nat} {H1 H2 H3 : List ABlk} (h : Grow w1 ι1 H1 w2 ι2 H2) (k : Grow w2 ι2 H2 w3 ι3 H3) : Grow w1 ι1 H1 w3 ι3 H3 := by
  refine ⟨fun b blk hb => ?_, fun b x blk blk' c ty fz h1 h3 hl hi hc => ?_⟩
  · obtain ⟨b2, e2, l2, f2⟩ := h.blk b blk hb
    obtain ⟨b3, e3, l3, f3⟩ := k.blk b b2 e2
    refine ⟨b3, e3, Nat.le_trans l2 l3, fun e => ?_⟩
    obtain ⟨s2, i2⟩ := f2 (by omega)
    obtain ⟨s3, i3⟩ := f3 (by omega)
    exact ⟨s3.trans s2, i3.trans i2⟩
  · obtain ⟨b2, e2, l2, f2⟩ := h.blk b blk h1
    obtain ⟨b3, e3, l3, f3⟩ := k.blk b b2 e2
    rw [h3] at e3; injection e3 with e3; subst e3
    obtain ⟨s2, i2⟩ := f2 (by omega)
    obtain ⟨c2, ty2, fz2, h5, h6⟩ := h.size b x blk b2 c ty fz h1 e2 (by omega) hi hc
    obtain ⟨c3, ty3, fz3, h7, h8⟩ := k.size b x b2 blk' c2 ty2 fz2 e2 h3 (by omega) (i2.trans hi) h5
    exact ⟨c3, ty3, fz3, h7, h8.trans h6⟩

structure Goes (w : World) (O : Nat → Prop) (ι : Nat → Option Nat) (H : List ABlk) (w' : World) (O' : Nat → Prop) (ι' : Nat → Option Nat) (H' : List ABlk) : Prop where
  cell : ∀ (p : Addr) (u : Value), ¬ O p.block → w.cell? p = some u → w'.cell? p = some u
  out : ∀ (p : Addr) (u : Value), ¬ O p.block → w.cell? p = some u → ¬ O' p.block
  blk : ∀ (b : Nat) (blk : ABlk), H[b]? = some blk → ∃ blk', H'[b]? = some blk' ∧ blk.es.length ≤ blk'.es.length ∧ (blk'.es.length = blk.es.length → blk'.sz = blk.sz ∧ ι' b = ι b)
  size : ∀ (b x : Nat) (blk blk' : ABlk) (c : Array Value) (ty : TypeId) (fz : Nat × Nat), H[b]? = some blk → H'[b]? = some blk' → blk'.es.length = blk.es.length → ι b = some x → w.heap[x]? = some (.cells c ty fz) →
    ∃ c' ty' fz', w'.heap[x]? = some (.cells c' ty' fz') ∧ c'.size = c.size

theorem Goes.grow {w w' : World} {O O' : Nat → Prop} {ι ι' : Nat → Option Nat} {H H' : List ABlk} (g : Goes w O ι H w' O' ι' H') : Grow w ι H w' ι' H' := ⟨g.blk, g.size⟩
theorem VR.mono {w w' : World} {O O' : Nat → Prop} {ι ι' : Nat → Option Nat} {H H' : List ABlk} {a : AV} {v : Value}
    (h : VR w O ι H a v) (g : Goes w O ι H w' O' ι' H') : VR w' O' ι' H' a v := by
  induction h with
  | base v => exact .base v
  | lnil => exact .lnil
  | lst es a n cap s val hn hcap hmax hlen hspot hc hv ih =>
    refine .lst es a n cap s val hn hcap hmax hlen hspot (fun i j e c he hj => ?_) (fun i j e c he hj => ih i j e c he hj)
    obtain ⟨h1, h2⟩ := hc i j e c he hj
    exact ⟨g.out ⟨a.block, _, none⟩ _ h1 h2, g.cell _ _ h1 h2⟩
  | agg cs arr hlen h ih => exact .agg cs arr hlen ih
  | tup cs arr hlen h ih => exact .tup cs arr hlen ih
  | clo f cs arr hlen h ih => exact .clo f cs arr hlen ih
  | iptr e off a val hs hoff hc hv ih =>
    refine .iptr e off a val hs hoff (fun j c hj => ?_) ih
    obtain ⟨h1, h2⟩ := hc j c hj
    exact ⟨g.out ⟨a.block, _, none⟩ _ h1 h2, g.cell _ _ h1 h2⟩
  | staleOwn b tot off len blk a n c hb h =>
    obtain ⟨blk', hb', hl, _⟩ := g.blk b blk hb
    exact .staleOwn _ _ _ _ blk' _ _ _ hb' (by omega)
  | stalePtr b tot i off blk a hb h =>
    obtain ⟨blk', hb', hl, _⟩ := g.blk b blk hb
    exact .stalePtr _ _ _ _ blk' _ hb' (by omega)
  | ownNil b blk h he hi =>
    obtain ⟨blk', hb', hl, hs⟩ := g.blk b blk h
    by_cases e : blk'.es.length = blk.es.length
    · obtain ⟨_, h3⟩ := hs e
      refine .ownNil b blk' hb' ?_ (h3.trans hi)
      rw [he] at e
      exact List.eq_nil_of_length_eq_zero e
    · exact .staleOwn _ _ _ _ blk' _ _ _ hb' (by omega)
  | own b tot off len blk x n cap a hb ht hi hn hl hcap ha =>
    obtain ⟨blk', hb', hle, hs⟩ := g.blk b blk hb
    by_cases e : blk'.es.length = blk.es.length
    · obtain ⟨h2, h3⟩ := hs e
      refine .own b tot off len blk' x n cap a hb' (e.trans ht) (h3.trans hi) hn hl hcap fun hc => ?_
      obtain ⟨h4, h9, c, ty, fz, h5, h6⟩ := ha hc
      obtain ⟨c', ty', fz', h7, h8⟩ := g.size b x blk blk' c ty fz hb hb' e hi h5
      rw [h2]
      exact ⟨h4, h9, c', ty', fz', h7, h6.trans h8.symm⟩
    · exact .staleOwn _ _ _ _ blk' _ _ _ hb' (by omega)
  | ptr b tot i off blk x hb ht hi hcx =>
    obtain ⟨blk', hb', hle, hs⟩ := g.blk b blk hb
    by_cases e : blk'.es.length = blk.es.length
    · obtain ⟨h2, h3⟩ := hs e
      obtain ⟨c, ty, fz, hcc⟩ := hcx
      obtain ⟨c', ty', fz', hcc', _⟩ := g.size b x blk blk' c ty fz hb hb' e hi hcc
      have := VR.ptr (w := w') (O := O') b tot i off blk' x hb' (e.trans ht) (h3.trans hi) ⟨c', ty', fz', hcc'⟩
      rwa [h2] at this
    · exact .stalePtr _ _ _ _ blk' _ hb' (by omega)
  | under c a v h0 h ih => exact .under c a v h0 ih
  | anyb b => exact .anyb b
  | staleView b tot i off n blk a m c hb h =>
    obtain ⟨blk', hb', hl, _⟩ := g.blk b blk hb
    exact .staleView _ _ _ _ _ blk' _ _ _ hb' (by omega)
  | view b tot i off n blk x cap hb ht hi hcx hcap hmax =>
    obtain ⟨blk', hb', hle, hs⟩ := g.blk b blk hb
    by_cases e : blk'.es.length = blk.es.length
    · obtain ⟨h2, h3⟩ := hs e
      obtain ⟨c, ty, fz, hcc⟩ := hcx
      obtain ⟨c', ty', fz', hcc', _⟩ := g.size b x blk blk' c ty fz hb hb' e hi hcc
      have := VR.view (w := w') (O := O') b tot i off n blk' x cap hb' (e.trans ht) (h3.trans hi) ⟨c', ty', fz', hcc'⟩ hcap hmax
      rwa [h2] at this
    · exact .staleView _ _ _ _ _ blk' _ _ _ hb' (by omega)
  | staleMap b blk a hb h =>
    obtain ⟨blk', hb', hl, _⟩ := g.blk b blk hb
    exact .staleMap _ blk' _ hb' (by omega)
  | mapv b blk x hb ht hi =>
    obtain ⟨blk', hb', hle, hs⟩ := g.blk b blk hb
    by_cases e : blk'.es.length = blk.es.length
    · obtain ⟨h2, h3⟩ := hs e
      exact .mapv _ blk' _ hb' (e.trans ht) (h3.trans hi)
    · exact .staleMap _ blk' _ hb' (by omega)
  | anyp a => exact .anyp a
  | mem cs v h => exact .mem cs v fun p hp => ⟨g.out p.1 p.2 (h p hp).1 (h p hp).2, g.cell p.1 p.2 (h p hp).1 (h p hp).2⟩
  | staleIter b blk a hb h =>
    obtain ⟨blk', hb', hl, _⟩ := g.blk b blk hb
    exact .staleIter _ blk' _ hb' (by omega)
  | iterv b blk x hb ht hi =>
    obtain ⟨blk', hb', hle, hs⟩ := g.blk b blk hb
    by_cases e : blk'.es.length = blk.es.length
    · obtain ⟨h2, h3⟩ := hs e
      exact .iterv _ blk' _ hb' (e.trans ht) (h3.trans hi)
    · exact .staleIter _ blk' _ hb' (by omega)
  | clip a ad n h ih => exact .clip a ad n ih
  | bad v => exact .bad v

def OO (O : Nat → Prop) (ι : Nat → Option Nat) (H : List ABlk) (x : Nat) : Prop := O x ∨ rng ι H x

def mapTy : TypeId := 1000000007
theorem ltMap {a : TypeId} (h : Nat.blt a mapTy = true) : a < mapTy := by simpa using h
def frzM (el : TypeId) : TypeId := 1000000010 + el
def iterTy : TypeId := 1000000009
def objRow : Obj → Option (Array Value × TypeId)
  | .cells c ty fz => if fz = (0, 0) then (if ty < mapTy then some (c, ty) else none) else some (c, frzM ty)
  | .map es _ => some (#[.agg (es.map (·.key)), .agg (es.map (·.val))], mapTy)
  | .stringIter s pos => some (#[.string s, .int .i64 pos], iterTy)
  | _ => none
def rowAt (w : World) (x : Nat) : Option (Array Value × TypeId) := (w.heap[x]?).bind objRow
theorem rowAt_cells {w : World} {x : Nat} {c : Array Value} {ty : TypeId} (h : w.heap[x]? = some (.cells c ty (0, 0))) (hm : ty < mapTy) : rowAt w x = some (c, ty) := by
  simp [rowAt, h, objRow, hm]
theorem rowAt_or {w : World} {x : Nat} {c : Array Value} {ty : TypeId} (h : rowAt w x = some (c, ty)) (hc : ∃ c1 ty1 fz, w.heap[x]? = some (.cells c1 ty1 fz)) : (w.heap[x]? = some (.cells c ty (0, 0)) ∧ ty < mapTy) ∨ (∃ ty2 fz, w.heap[x]? = some (.cells c ty2 fz) ∧ ty = frzM ty2) := by
  obtain ⟨c1, ty1, fz, hc⟩ := hc
  simp only [rowAt, hc, Option.bind_some, objRow] at h
  split at h
  · rename_i hz
    split at h
    · rename_i h2
      injection h with h; injection h with h3 h4; subst h3; subst h4; subst hz
      exact .inl ⟨hc, h2⟩
    · cases h
  · injection h with h; injection h with h3 h4; subst h3
    exact .inr ⟨_, _, hc, h4.symm⟩
theorem rowAt_el {w : World} {x : Nat} {c : Array Value} {ty : TypeId} (h : rowAt w x = some (c, ty)) (hc : ∃ c1 ty1 fz, w.heap[x]? = some (.cells c1 ty1 fz)) : ∃ ty2 fz, w.heap[x]? = some (.cells c ty2 fz) := by
  rcases rowAt_or h hc with h | ⟨_, _, h, _⟩
  · exact ⟨_, _, h.1⟩
  · exact ⟨_, _, h⟩
theorem frzM_ne (el : TypeId) : ¬ frzM el < mapTy ∧ frzM el ≠ mapTy ∧ frzM el ≠ iterTy := by
  have h : (1000000010 : Nat) ≤ frzM el := Nat.le_add_right _ _
  have h1 : mapTy < (1000000010 : Nat) := by decide
  have h2 : iterTy < (1000000010 : Nat) := by decide
  exact ⟨fun h3 => absurd (Nat.lt_trans h3 h1) (Nat.not_lt.2 h), fun h3 => absurd h1 (Nat.not_lt.2 (h3 ▸ h)), fun h3 => absurd h2 (Nat.not_lt.2 (h3 ▸ h))⟩
theorem frzM_inj {a b : TypeId} (h : frzM a = frzM b) : a = b := by
  unfold frzM at h
  exact Nat.add_left_cancel h
theorem rowAt_inv {w : World} {x : Nat} {c : Array Value} {ty : TypeId} (h : rowAt w x = some (c, ty)) (hc : ∃ c1 ty1 fz, w.heap[x]? = some (.cells c1 ty1 fz)) (hm : ty < mapTy) : w.heap[x]? = some (.cells c ty (0, 0)) := by
  rcases rowAt_or h hc with h | ⟨ty2, _, _, h⟩
  · exact h.1
  · rw [h] at hm; exact absurd hm (frzM_ne ty2).1
theorem rowAt_ty {w : World} {x : Nat} {c : Array Value} {el bt : TypeId} (h : rowAt w x = some (c, bt)) (hc : ∃ c1 ty1 fz, w.heap[x]? = some (.cells c1 ty1 fz)) (hb : bt = el ∧ el < mapTy ∨ bt = frzM el) : ∃ fz, w.heap[x]? = some (.cells c el fz) := by
  rcases rowAt_or h hc with h | ⟨ty2, fz, h1, h⟩
  · rcases hb with hb | hb
    · rw [← hb.1]; exact ⟨_, h.1⟩
    · rw [hb] at h; exact absurd h.2 (frzM_ne el).1
  · rcases hb with hb | hb
    · rw [h] at hb; rw [← hb.1] at hb; exact absurd hb.2 (frzM_ne ty2).1
    · rw [hb] at h; rw [frzM_inj h]; exact ⟨_, h1⟩
theorem rowAt_map {w : World} {x : Nat} {c : Array Value} (h : rowAt w x = some (c, mapTy)) : ∃ es k, w.heap[x]? = some (.map es k) ∧ c = #[.agg (es.map (·.key)), .agg (es.map (·.val))] := by
  unfold rowAt at h
  cases hx : w.heap[x]? with
  | none => rw [hx] at h; cases h
  | some o =>
    rw [hx] at h
    cases o with
    | cells c1 ty1 fz =>
      simp only [Option.bind_some, objRow] at h
      split at h
      · split at h
        · rename_i h2
          injection h with h; injection h with h3 h4; rw [h4] at h2; exact absurd h2 (Nat.lt_irrefl _)
        · cases h
      · injection h with h; injection h with h3 h4; exact absurd h4 (frzM_ne _).2.1
    | map es k =>
      simp only [Option.bind_some, objRow] at h
      injection h with h; injection h with h3 h4
      exact ⟨es, k, rfl, h3.symm⟩
    | stringIter s pos =>
      simp only [Option.bind_some, objRow] at h
      injection h with h; injection h with h3 h4; exact absurd h4 (by decide)
    | _ => cases h
theorem rowAt_iter {w : World} {x : Nat} {c : Array Value} (h : rowAt w x = some (c, iterTy)) : ∃ s pos, w.heap[x]? = some (.stringIter s pos) ∧ c = #[.string s, .int .i64 pos] := by
  unfold rowAt at h
  cases hx : w.heap[x]? with
  | none => rw [hx] at h; cases h
  | some o =>
    rw [hx] at h
    cases o with
    | cells c1 ty1 fz =>
      simp only [Option.bind_some, objRow] at h
      split at h
      · split at h
        · rename_i h2
          injection h with h; injection h with h3 h4; rw [h4] at h2; exact absurd h2 (by decide)
        · cases h
      · injection h with h; injection h with h3 h4; exact absurd h4 (frzM_ne _).2.2
    | map es k =>
      simp only [Option.bind_some, objRow] at h
      injection h with h; injection h with h3 h4; exact absurd h4 (by decide)
    | stringIter s pos =>
      simp only [Option.bind_some, objRow] at h
      injection h with h; injection h with h3 h4
      exact ⟨s, pos, rfl, h3.symm⟩
    | _ => cases h
theorem rowAt_lt {w : World} {x : Nat} {r : Array Value × TypeId} (h : rowAt w x = some r) : x < w.heap.size := by
  rcases Nat.lt_or_ge x w.heap.size with h' | h'
  · exact h'
  · rw [rowAt, Array.getElem?_eq_none h'] at h; cases h
theorem rowAt_same {w w' : World} {x : Nat} (h : w'.heap[x]? = w.heap[x]?) : rowAt w' x = rowAt w x := by rw [rowAt, h]; rfl

structure BR (w : World) (O : Nat → Prop) (ι : Nat → Option Nat) (H : List ABlk) (blk : ABlk) (x : Nat) : Prop where
  row : ∃ c, rowAt w x = some (c, blk.ty) ∧ blk.es.length * blk.sz ≤ c.size ∧
    (∀ e ∈ blk.es, e.cells.length = blk.sz) ∧
    ∀ (i j : Nat) (e d : AV), blk.es[i]? = some e → e.cells[j]? = some d → ∃ u, c[i * blk.sz + j]? = some u ∧ VR w O ι H d u

structure Base where
  w : World
  S : Nat → Prop
  H : List ABlk
  ι : Nat → Option Nat
abbrev base0 (w : World) : Base := ⟨w, fun _ => False, [], fun _ => none⟩
structure Bel (w0 : Base) (w : World) : Prop where
  os : w.os = w0.w.os
  tape : w.tape = w0.w.tape
  output : w.output = w0.w.output
  size : w0.w.heap.size ≤ w.heap.size
  block : ∀ k, k < w0.w.heap.size → ¬ w0.S k → w.heap[k]? = w0.w.heap[k]?
theorem Bel.step {w0 : Base} {w w' : World} (h : Bel w0 w) (hb : Below w.heap.size w w') : Bel w0 w' :=
  ⟨hb.os.trans h.os, hb.tape.trans h.tape, hb.output.trans h.output, Nat.le_trans h.size hb.size, fun k hk hS => (hb.block k (Nat.lt_of_lt_of_le hk h.size)).trans (h.block k hk hS)⟩
theorem Bel.change {w0 : Base} {w w' : World} (h : Bel w0 w) (hos : w'.os = w.os) (ht : w'.tape = w.tape) (ho : w'.output = w.output) (hsz : w.heap.size ≤ w'.heap.size)
    (hb : ∀ k, k < w.heap.size → w'.heap[k]? ≠ w.heap[k]? → w0.w.heap.size ≤ k ∨ w0.S k) : Bel w0 w' :=
  ⟨hos.trans h.os, ht.trans h.tape, ho.trans h.output, Nat.le_trans h.size hsz, fun k hk hS => by
    by_cases e : w'.heap[k]? = w.heap[k]?
    · exact e.trans (h.block k hk hS)
    · rcases hb k (Nat.lt_of_lt_of_le hk h.size) e with h1 | h1
      · omega
      · exact absurd h1 hS⟩
theorem Bel.refl (w : World) (S : Nat → Prop) (H : List ABlk) (ι : Nat → Option Nat) : Bel ⟨w, S, H, ι⟩ w := ⟨rfl, rfl, rfl, Nat.le_refl _, fun _ _ _ => rfl⟩
theorem Bel.below {w w' : World} (h : Bel (base0 w) w') : Below w.heap.size w w' := ⟨h.os, h.tape, h.output, h.size, fun k hk => h.block k hk id⟩

structure Sit (w0 : Base) (O : Nat → Prop) (ι : Nat → Option Nat) (H : List ABlk) (w : World) : Prop where
  heap : ∀ (b : Nat) (blk : ABlk) (x : Nat), H[b]? = some blk → ι b = some x → (w0.w.heap.size ≤ x ∨ w0.S x) ∧ BR w (OO O ι H) ι H blk x
  empt : ∀ (b : Nat) (blk : ABlk), H[b]? = some blk → ι b = none → blk.es = []
  inj : ∀ (b b' x : Nat), b < H.length → b' < H.length → ι b = some x → ι b' = some x → b = b'
  below : Bel w0 w
  old : ∀ x, O x → x < w.heap.size
  disj : ∀ (x b : Nat), O x → b < H.length → ι b ≠ some x
  hist : Grow w0.w w0.ι w0.H w ι H

abbrev Env := List (Nat × AV)
def lk : Env → Nat → AV
  | [], _ => .bad
  | (k, v) :: r, t => if k = t then v else lk r t

structure ASt where
  env : Env
  H : List ABlk

def cv : Value → AV
  | .agg cs => .agg (cs.toList.map .base)
  | v => .base v
theorem VR.cv (w : World) (O : Nat → Prop) (ι : Nat → Option Nat) (H : List ABlk) (v : Value) : VR w O ι H (cv v) v := by
  cases v <;> first
    | exact .base _
    | (refine .agg _ _ (by simp) fun j c u hc hu => ?_
       simp only [List.getElem?_map, Array.getElem?_toList, hu, Option.map_some] at hc
       injection hc with hc; subst hc; exact .base _)

def ev (E : Env) : Operand → AV
  | .tmp t => lk E t
  | .const v => cv v
  | .global g => .base (.pointer (some ⟨g, 0, none⟩))
  | .func f => .clo f []

structure Fr where
  n : Nat
  m : Nat
instance (k : Nat) : OfNat Fr k := ⟨⟨k, 0⟩⟩

structure SR (n : Fr) (w0 : Base) (O : Nat → Prop) (s : ASt) (ι : Nat → Option Nat) (a : Act) (w : World) : Prop where
  sit : Sit w0 O ι s.H w
  defers : a.defers = []
  size : a.tmps.size = n.n
  hand : w0.H.length = n.m
  vals : ∀ t, VR w (OO O ι s.H) ι s.H (lk s.env t) (a.tmps.getD t undef)

theorem VR.ev {w : World} {O : Nat → Prop} {ι : Nat → Option Nat} {H : List ABlk} {E : Env} {a : Act}
    (h : ∀ t, VR w O ι H (lk E t) (a.tmps.getD t undef)) (x : Operand) : VR w O ι H (ev E x) (a.eval x) := by
  cases x with
  | tmp t => exact h t
  | const v => exact VR.cv _ _ _ _ v
  | global g => exact .base _
  | func f => exact .clo f [] #[] rfl (by simp)

end Go.Ab
namespace Go.Ab
open Go Go.RowKit

abbrev AV.int (n : Int) : AV := .base (.int .i64 n)
abbrev AV.bool (b : Bool) : AV := .base (.bool b)

def stripA (c : Bool) : AV → AV
  | .under d a => if c = d then a else .under d a
  | a => a

def stripL : List Bool → AV → AV
  | [], a => a
  | c :: l, a => stripL l (stripA c a)
def wrapL : List Bool → AV → AV
  | [], a => a
  | c :: l, a => .under c (wrapL l a)
def allL : List Bool → Bool
  | [] => true
  | c :: l => c && allL l

def aggTy (P : Program) (t : TypeId) : Option Bool :=
  match P.underlying t with
  | some (.struct _) | some (.array _ _) => some true
  | some _ => some false
  | none => none
def szTy (P : Program) (t : TypeId) : Option Nat := (P.info? t).map (·.size)

def isAggA : AV → Bool
  | .agg _ => true
  | _ => false

def ldE (agg : Option Bool) (sz : Option Nat) (e : AV) (off : Nat) : Option AV :=
  match agg, sz with
  | some true, some n => if off + n ≤ e.cells.length then some (.agg ((e.cells.drop off).take n)) else none
  | some false, _ => e.cells[off]?
  | _, _ => none

def fieldOff (P : Program) (s : TypeId) (f : Nat) : Option Nat :=
  match P.underlying s with
  | some (.struct fs) => match fs[f]? with
    | some fd => match szTy P fd.type with
      | some (_ + 1) => some fd.offset
      | _ => none
    | none => none
  | _ => none

def intBin (op : BinOp) (k : IntKind) (a b : Int) : Option AV :=
  match op with
  | .add => some (.base (.int k (k.wrap (a + b))))
  | .sub => some (.base (.int k (k.wrap (a - b))))
  | .mul => some (.base (.int k (k.wrap (a * b))))
  | .quo => if b = 0 then none else some (.base (.int k (k.wrap (a.tdiv b))))
  | .rem => if b = 0 then none else some (.base (.int k (a.tmod b)))
  | .and => some (.base (.int k (k.wrap (BitVec.ofInt k.bits a &&& BitVec.ofInt k.bits b).toNat)))
  | .or => some (.base (.int k (k.wrap (BitVec.ofInt k.bits a ||| BitVec.ofInt k.bits b).toNat)))
  | .eql => some (.bool (a == b))
  | .neq => some (.bool (a != b))
  | .lss => some (.bool (decide (a < b)))
  | .leq => some (.bool (decide (a ≤ b)))
  | .gtr => some (.bool (decide (a > b)))
  | .geq => some (.bool (decide (a ≥ b)))
  | _ => none

def strBin (op : BinOp) (x y : ByteArray) : Option AV :=
  match op with
  | .eql => some (.bool (x.toList == y.toList))
  | .neq => some (.bool !(x.toList == y.toList))
  | .lss => some (.bool (Op.bytesLess x.toList y.toList))
  | _ => none

def boolBin (P : Program) (t : TypeId) (op : BinOp) (x y : Bool) : Option AV :=
  match P.underlying t with
  | some .bool => match op with
    | .eql => some (.bool (x == y))
    | .neq => some (.bool (!(x == y)))
    | _ => none
  | _ => none

def binF (P : Program) (t : TypeId) (op : BinOp) : AV → AV → Option AV
  | .base (.int k a), .base (.int k' b) => match op with
    | .shl => if b < 0 then none else some (.base (.int k (k.wrap (a * 2 ^ (min b.toNat k.bits)))))
    | .shr => if b < 0 then none else some (.base (.int k (a.fdiv (2 ^ (min b.toNat k.bits)))))
    | _ => if k = k' then intBin op k a b else none
  | .base (.string a), .base (.string b) => strBin op a b
  | .base (.bool a), .base (.bool b) => boolBin P t op a b
  | _, _ => none

def fresh (H : List ABlk) (b tot : Nat) : Bool :=
  match H[b]? with
  | some blk => blk.es.length == tot
  | none => false

def lenF (P : Program) (H : List ABlk) (t : TypeId) : AV → Option AV
  | .lst es => match P.underlying t with | some (.slice _) => some (.int es.length) | _ => none
  | .own b tot _ n => if fresh H b tot = true then match P.underlying t with | some (.slice _) => some (.int n) | _ => none else none
  | .base (.slice none 0 0) => match P.underlying t with | some (.slice _) => some (.int 0) | _ => none
  | .base (.string s) => match P.underlying t with | some .string => some (.int s.size) | _ => none
  | _ => none

def pickF (t : Bool) (A B : AV) : Option AV :=
  match stripA t A, stripA (!t) B with
  | .base (.bool x), .base (.bool y) => some (.bool (bif t then x else y))
  | _, _ => none

def fieldF (P : Program) (t : TypeId) (f : Nat) (cs : List AV) : Option AV :=
  match P.underlying t with
  | some (.struct fs) => match fs[f]? with
    | some fd => ldE (aggTy P fd.type) (szTy P fd.type) (.agg cs) fd.offset
    | none => none
  | _ => none

def qfun (P : Program) (H : List ABlk) (ρ : Operand → AV) : Op → Option AV
  | .move x | .assign x => some (ρ x)
  | .pick c a b => match ρ c with
    | .base (.bool t) => pickF t (ρ a) (ρ b)
    | _ => none
  | .load t x => match ρ x with
    | .iptr e off => ldE (aggTy P t) (szTy P t) e off
    | .ptr b tot i off => match H[b]? with
      | some blk => if blk.es.length = tot then match blk.es[i]? with
        | some e => ldE (aggTy P t) (szTy P t) e off
        | none => none else none
      | none => none
    | _ => none
  | .fieldAddr s x f => match fieldOff P s f, ρ x with
    | some n, .iptr e off => some (.iptr e (off + n))
    | some n, .ptr b tot i off => if fresh H b tot = true then some (.ptr b tot i (off + n)) else none
    | _, _ => none
  | .field t x f => match ρ x with
    | .agg cs => fieldF P t f cs
    | _ => none
  | .binOp op t x y _ => binF P t op (ρ x) (ρ y)
  | .unOp .not _ x => match ρ x with
    | .base (.bool b) => some (.bool !b)
    | _ => none
  | .unOp .neg _ x => match ρ x with
    | .base (.int k n) => some (.base (.int k (k.wrap (0 - n))))
    | _ => none
  | .extract x i => match ρ x with
    | .tup vs => vs[i]?
    | _ => none
  | .nilCheck x => match ρ x with
    | .ptr b tot i off => if fresh H b tot = true then some (.ptr b tot i off) else none
    | .iptr e off => some (.iptr e off)
    | _ => none
  | .convert s d x => match ρ x with
    | .base (.int _ n) => match P.underlying s, P.underlying d with
      | some _, some (.int k) => some (.base (.int k (k.wrap n)))
      | _, _ => none
    | _ => none
  | .makeFunc (.func f) first caps => match first.toList with
    | [] => some (.clo f (caps.toList.map ρ))
    | _ => none
  | .call c => match c.callee, c.args.toList, c.argTypes.toList with
    | .builtin .len, [x], [t] => lenF P H t (ρ x)
    | _, _, _ => none
  | _ => none

def QOp (P : Program) (H : List ABlk) (ρ : Operand → AV) (o : Oper) (v : AV) : Prop :=
  ∀ (w0 : Base) (O : Nat → Prop) (ι : Nat → Option Nat) (a : Act) (w : World), Sit w0 O ι H w →
    (∀ x, x ∈ o.op.operands ∨ x = .tmp memSlot → VR w (OO O ι H) ι H (ρ x) (a.eval x)) →
    ∀ (K : Act → World → Prop) (Q : Exit → Act → World → Prop),
      (∀ u w', VR w' (OO O ι H) ι H v u → Below w.heap.size w w' → K (a.put o.dst u) w') → o.wp P a w K Q

theorem QOp.of_run {P : Program} {H : List ABlk} {ρ : Operand → AV} {o : Oper} {v : AV}
    (h : ∀ (w0 : Base) (O : Nat → Prop) (ι : Nat → Option Nat) (a : Act) (w : World), Sit w0 O ι H w →
      (∀ x, x ∈ o.op.operands → VR w (OO O ι H) ι H (ρ x) (a.eval x)) → ∃ u, (execOp a.eval o).run P w = .ok (.value u) w ∧ VR w (OO O ι H) ι H v u) : QOp P H ρ o v := by
  intro w0 O ι a w hs hv K Q hK
  obtain ⟨u, hr, hu⟩ := h w0 O ι a w hs fun x hx => hv x (.inl hx)
  unfold Oper.wp
  rw [hr]
  exact hK u w hu (Below.refl _ _)

section
variable {w : World} {O : Nat → Prop} {ι : Nat → Option Nat} {H : List ABlk} {u : Value}
theorem VR.base_inv {v : Value} (h : VR w O ι H (.base v) u) : u = v := by cases h; rfl
theorem VR.agg_inv {cs : List AV} (h : VR w O ι H (.agg cs) u) : ∃ arr : Array Value, u = .agg arr ∧ arr.size = cs.length ∧
    ∀ (j : Nat) (c : AV) (u : Value), cs[j]? = some c → arr[j]? = some u → VR w O ι H c u := by
  cases h with
  | agg cs arr hlen h => exact ⟨arr, rfl, hlen, h⟩
theorem VR.tup_inv {cs : List AV} (h : VR w O ι H (.tup cs) u) : ∃ arr : Array Value, u = .tuple arr ∧ arr.size = cs.length ∧
    ∀ (j : Nat) (c : AV) (u : Value), cs[j]? = some c → arr[j]? = some u → VR w O ι H c u := by
  cases h with
  | tup cs arr hlen h => exact ⟨arr, rfl, hlen, h⟩
theorem VR.under_inv {c : Bool} {a : AV} (h : VR w O ι H (.under c a) u) (hc : c = true) : VR w O ι H a u := by
  cases h with
  | under c a v h0 h => exact h hc
theorem VR.strip {c : Bool} {a : AV} (hc : c = true) (h : VR w O ι H a u) : VR w O ι H (stripA c a) u := by
  cases a with
  | under d a' =>
    show VR w O ι H (if c = d then a' else .under d a') u
    split
    · rename_i e; subst e; exact h.under_inv hc
    · exact h
  | _ => exact h

theorem VR.strips : ∀ {l : List Bool} {a : AV}, allL l = true → VR w O ι H a u → VR w O ι H (stripL l a) u
  | [], a, _, h => h
  | c :: l, a, hl, h => by
    simp only [allL, Bool.and_eq_true] at hl
    exact VR.strips (l := l) (a := stripA c a) hl.2 (h.strip hl.1)
theorem VR.wraps : ∀ {l : List Bool} {a : AV}, VR w O ι H a u → allL l = true → VR w O ι H (wrapL l a) u
  | [], a, h, _ => h
  | c :: l, a, h, hl => by
    simp only [allL, Bool.and_eq_true] at hl
    exact .under _ _ _ (fun e => by rw [hl.1] at e; cases e) fun _ => VR.wraps h hl.2
theorem VR.wrapsN : ∀ {l : List Bool} {a : AV}, allL l = false → VR w O ι H (wrapL l a) undef
  | [], a, h => by cases h
  | c :: l, a, hl => by
    refine .under _ _ _ (fun _ => rfl) fun hc => VR.wrapsN ?_
    simpa [allL, hc] using hl

def EL (w : World) (O : Nat → Prop) (ι : Nat → Option Nat) (H : List ABlk) (e : AV) (blk off : Nat) : Prop :=
  ∀ (j : Nat) (c : AV), e.cells[j]? = some c → ∃ u, w.cell? ⟨blk, off + j, none⟩ = some u ∧ VR w O ι H c u

theorem VR.iptr_inv {e : AV} {off : Nat} (h : VR w O ι H (.iptr e off) u) : ∃ a : Addr, u = .pointer (some a) ∧ a.spot = none ∧ off ≤ a.off ∧ EL w O ι H e a.block (a.off - off) := by
  cases h with
  | iptr e off a val hs hoff hc hv => exact ⟨a, rfl, hs, hoff, fun j c hj => ⟨val j, (hc j c hj).2, hv j c hj⟩⟩

theorem VR.ptr_inv {w0 : Base} {O : Nat → Prop} (hs : Sit w0 O ι H w) {O' : Nat → Prop} {b tot i off : Nat} {blk : ABlk} {e : AV} (h : VR w O' ι H (.ptr b tot i off) u) (hb : H[b]? = some blk) (ht : blk.es.length = tot) (he : blk.es[i]? = some e) :
    ∃ x, ι b = some x ∧ u = .pointer (some ⟨x, i * blk.sz + off, none⟩) ∧ EL w (OO O ι H) ι H e x (i * blk.sz) := by
  cases h with
  | stalePtr b tot i off blk' a hb' h => rw [hb] at hb'; cases hb'; omega
  | ptr b tot i off blk' x hb' ht' hi hcx =>
    rw [hb] at hb'; cases hb'
    obtain ⟨_, c, hc, _, _, hel⟩ := hs.heap b blk x hb hi
    refine ⟨x, hi, rfl, fun j d hj => ?_⟩
    obtain ⟨u, hu, hv⟩ := hel i j e d he hj
    obtain ⟨ty3, fz3, hc⟩ := rowAt_el hc hcx
    exact ⟨u, by simpa [World.cell?, hc] using hu, hv⟩

theorem ldE_run {P : Program} {t : TypeId} {e v : AV} {off blk base : Nat} (h : ldE (aggTy P t) (szTy P t) e off = some v) (hel : EL w O ι H e blk base) :
    ∃ u, (loadVar t ⟨blk, base + off, none⟩).run P w = .ok u w ∧ VR w O ι H v u := by
  unfold ldE at h
  split at h
  · rename_i n ha hn
    split at h
    · rename_i hle
      injection h with h; subst h
      have hex : ∃ us : List Value, us.length = n ∧ ∀ j c u, ((e.cells.drop off).take n)[j]? = some c → us[j]? = some u → w.cell? ⟨blk, base + off + j, none⟩ = some u ∧ VR w O ι H c u := by
        refine ⟨(List.range n).map fun j => (w.cell? ⟨blk, base + off + j, none⟩).getD undef, by simp, fun j c u hc hu => ?_⟩
        rw [List.getElem?_take] at hc
        split at hc
        · rename_i hj
          rw [List.getElem?_drop] at hc
          obtain ⟨u', hu', hv⟩ := hel _ _ hc
          rw [← Nat.add_assoc] at hu'
          rw [List.getElem?_map, List.getElem?_range hj] at hu
          simp [hu'] at hu
          subst hu
          exact ⟨hu', hv⟩
        · cases hc
      obtain ⟨us, hul, hus⟩ := hex
      have hcl : ((e.cells.drop off).take n).length = n := by simp; omega
      have hrange : w.rangeAt blk (base + off) us := by
        intro j v hj
        have hjl : j < n := by rw [← hul]; exact (List.getElem?_eq_some_iff.1 hj).1
        have hc : ((e.cells.drop off).take n)[j]? = some (((e.cells.drop off).take n)[j]'(by omega)) := List.getElem?_eq_getElem (by omega)
        exact (hus j _ v hc hj).1
      unfold aggTy at ha
      have hd : ∃ d, P.underlying t = some d ∧ d.isRow = true := by
        split at ha <;> simp_all
      obtain ⟨d, hd1, hd2⟩ := hd
      unfold szTy at hn
      refine ⟨.agg us.toArray, run_loadVar_mid w blk (base + off) t us d hrange hd1 hd2 (by rw [hn, hul]), ?_⟩
      refine .agg _ _ (by simp [hul]; omega) fun j c u hc hu => ?_
      exact (hus j c u hc (by simpa using hu)).2
    · cases h
  · rename_i ha
    obtain ⟨u, hu, hv⟩ := hel off v h
    refine ⟨u, ?_, hv⟩
    unfold aggTy at ha
    have hagg : (isAgg t).run P w = .ok false w := by
      unfold isAgg
      split at ha
      · cases ha
      · cases ha
      · rename_i d _ _ hd
        rw [Sem.run_bind, run_underlying hd w]
        cases d <;> simp_all
      · cases ha
    simp [loadVar, Sem.run_bind, hagg, hu]
  · cases h

theorem eqGuard_run {P : Program} {op : BinOp} {t : TypeId} {x y : Operand} {a b : Value} (ha : a ≠ .nilIface) (hag : ∀ cs, a ≠ .agg cs) : (eqGuard op t x y a b).run P w = .ok () w := by
  unfold eqGuard
  cases op <;> simp only [Bool.not_true, Bool.not_false, if_true] <;> first
    | rfl
    | (cases a <;> first | (exact absurd rfl ha) | (exact absurd rfl (hag _)) | (cases b <;> rfl))

theorem binF_run {P : Program} {t : TypeId} {op : BinOp} {A B v : AV} {x y : Value} {X Y : Operand} (h : binF P t op A B = some v) (hx : VR w O ι H A x) (hy : VR w O ι H B y) :
    ∃ u, (eqGuard op t X Y x y).run P w = .ok () w ∧ (binOp op t x y).run P w = .ok u w ∧ VR w O ι H v u := by
  unfold binF at h
  split at h
  · rename_i k a k' b
    have := hx.base_inv; subst this
    have := hy.base_inv; subst this
    have hg : (eqGuard op t X Y (.int k a) (.int k' b)).run P w = .ok () w := eqGuard_run (by simp) (by simp)
    split at h
    · split at h
      · cases h
      · rename_i hb
        injection h with h; subst h
        exact ⟨_, hg, by simp [binOp, Op.shift, hb], .base _⟩
    · split at h
      · cases h
      · rename_i hb
        injection h with h; subst h
        exact ⟨_, hg, by simp [binOp, Op.shift, hb], .base _⟩
    · rename_i h1 h2
      split at h
      · rename_i hk; subst hk
        unfold intBin at h
        cases op <;> simp only at h <;> first
          | (cases h; done)
          | (exact absurd rfl h1)
          | (exact absurd rfl h2)
          | (injection h with h; subst h; exact ⟨_, hg, by simp [binOp, Op.intArith, Op.intBits, Op.intCmp], .base _⟩)
          | (split at h
             · cases h
             · rename_i hb
               injection h with h; subst h; exact ⟨_, hg, by simp [binOp, Op.intDiv, hb], .base _⟩)
      · cases h
  · rename_i a b
    have := hx.base_inv; subst this
    have := hy.base_inv; subst this
    have hg : (eqGuard op t X Y (.string a) (.string b)).run P w = .ok () w := eqGuard_run (by simp) (by simp)
    unfold strBin at h
    cases op <;> simp only at h <;> first
      | (cases h; done)
      | (injection h with h; subst h; exact ⟨_, hg, by simp [binOp, Op.stringOp], .base _⟩)
  · rename_i a b
    have := hx.base_inv; subst this
    have := hy.base_inv; subst this
    have hg : (eqGuard op t X Y (.bool a) (.bool b)).run P w = .ok () w := eqGuard_run (by simp) (by simp)
    unfold boolBin at h
    split at h
    · rename_i ht
      cases op <;> simp only at h <;> first
        | (cases h; done)
        | (injection h with h; subst h; refine ⟨_, hg, ?_, .base _⟩; have he : (Op.equal t (.bool a) (.bool b)).run P w = .ok (a == b) w := run_equalIn_bool' w 9999 t a b ht; simp only [binOp, Sem.run_bind, he, Result.andThen_ok, Sem.run_pure])
    · cases h
  · cases h

theorem lenF_run {P : Program} {t ty : TypeId} {A v : AV} {x : Value} (h : lenF P H t A = some v) (hx : VR w O ι H A x) :
    ∃ u, (Builtin.len_ #[t] ty #[x]).run P w = .ok u w ∧ VR w O ι H v u := by
  unfold lenF at h
  split at h
  · split at h
    · rename_i es _ e ht
      injection h with h; subst h
      cases hx with
      | lnil => exact ⟨_, by simp [Builtin.len_, run_underlying ht, goInt], .base _⟩
      | lst es a n cap s val hn hcap hmax hlen hspot hc hv => exact ⟨.int .i64 n, by simp [Builtin.len_, run_underlying ht, goInt], by subst hn; exact .base _⟩
    · cases h
  · split at h
    · rename_i b tot off n hf
      split at h
      · rename_i e ht
        injection h with h; subst h
        cases hx with
        | staleOwn b tot off n blk a n' c hb hlt => simp [fresh, hb] at hf; omega
        | ownNil b blk hb he hi => exact ⟨_, by simp [Builtin.len_, run_underlying ht, goInt], .base _⟩
        | own b tot off n blk x n' cap a hb ht' hi hn hl hcap ha => exact ⟨.int .i64 n', by simp [Builtin.len_, run_underlying ht, goInt], by subst hn; exact .base _⟩
      · cases h
    · cases h
  · split at h
    · rename_i _ e ht
      injection h with h; subst h
      have := hx.base_inv; subst this
      exact ⟨_, by simp [Builtin.len_, run_underlying ht, goInt], .base _⟩
    · cases h
  · split at h
    · rename_i _ ht
      injection h with h; subst h
      have := hx.base_inv; subst this
      exact ⟨_, by simp [Builtin.len_, run_underlying ht, goInt], .base _⟩
    · cases h
  · cases h

theorem cells_getD {arr : Array Value} {cs : List AV} (hl : arr.size = cs.length) {i : Nat} (hi : i < cs.length) : ∃ u, arr[i]? = some u := ⟨_, Array.getElem?_eq_getElem (by omega)⟩

theorem fieldPlace_run {P : Program} {s : TypeId} {f n : Nat} (h : fieldOff P s f = some n) (a : Addr) (hs : a.spot = none) :
    (Instr.fieldAt s (.pointer (some a)) f).run P w = .ok (.pointer (some ⟨a.block, a.off + n, none⟩)) w := by
  unfold fieldOff at h
  split at h
  · rename_i fs hu
    split at h
    · rename_i fd hf
      split at h
      · rename_i k hz
        injection h with h
        unfold szTy at hz
        cases hi : P.info? fd.type with
        | none => simp [hi] at hz
        | some i =>
          simp [hi] at hz
          have hadd : a.add fd.offset = ⟨a.block, a.off + n, none⟩ := by
            subst h
            unfold Addr.add
            split
            · rename_i h0; cases a; simp_all
            · rfl
          simp [Instr.fieldAt, run_underlying hu, hf, Instr.sureAddr, fieldPlace, sizeOf, typeInfo, hi, hz, hadd]
      · cases h
    · cases h
  · cases h

theorem part_run {P : Program} {t : TypeId} {cs : List AV} {arr : Array Value} {off : Nat} {v : AV} (hl : arr.size = cs.length)
    (hc : ∀ (j : Nat) (c : AV) (u : Value), cs[j]? = some c → arr[j]? = some u → VR w O ι H c u)
    (h : ldE (aggTy P t) (szTy P t) (.agg cs) off = some v) : ∃ u, (part t arr off).run P w = .ok u w ∧ VR w O ι H v u := by
  unfold ldE at h
  split at h
  · rename_i n ha hn
    split at h
    · rename_i hle
      injection h with h; subst h
      have hle' : off + n ≤ arr.size := by rw [hl]; exact hle
      have hsz : (sizeOf t).run P w = .ok n w := by
        unfold szTy at hn
        cases hi : P.info? t with
        | none => simp [hi] at hn
        | some i => simp [hi] at hn; simp [sizeOf, typeInfo, hi, hn]
      have hagg : (isAgg t).run P w = .ok true w := by
        unfold aggTy at ha
        unfold isAgg
        split at ha
        · rename_i d hd; rw [Sem.run_bind, run_underlying hd w]; rfl
        · rename_i d hd; rw [Sem.run_bind, run_underlying hd w]; rfl
        · cases ha
        · cases ha
      refine ⟨.agg (arr.extract off (off + n)), by simp [part, hagg, hsz], .agg _ _ (by simp only [Array.size_extract, AV.cells, List.length_take, List.length_drop]; omega) fun j c u hj hu => ?_⟩
      simp only [AV.cells] at hj
      rw [List.getElem?_take] at hj
      split at hj
      · rename_i hjn
        rw [List.getElem?_drop] at hj
        rw [Array.getElem?_extract] at hu
        split at hu
        · exact hc _ _ _ hj hu
        · cases hu
      · cases hj
    · cases h
  · rename_i ha
    have hagg : (isAgg t).run P w = .ok false w := by
      unfold aggTy at ha
      unfold isAgg
      split at ha
      · cases ha
      · cases ha
      · rename_i d _ _ hd
        rw [Sem.run_bind, run_underlying hd w]
        cases d <;> simp_all
      · cases ha
    simp only [AV.cells] at h
    obtain ⟨u, hu⟩ := cells_getD hl (List.getElem?_eq_some_iff.1 h).1
    exact ⟨u, by simp [part, hagg, hu], hc _ _ _ h hu⟩
  · cases h

theorem fresh_inv {b tot : Nat} (h : fresh H b tot = true) : ∃ blk, H[b]? = some blk ∧ blk.es.length = tot := by
  unfold fresh at h
  split at h
  · rename_i blk hb; exact ⟨blk, hb, by simpa using h⟩
  · cases h

theorem VR.ptr_fresh {b tot i off : Nat} (hf : fresh H b tot = true) (h : VR w O ι H (.ptr b tot i off) u) :
    ∃ x blk, ι b = some x ∧ H[b]? = some blk ∧ blk.es.length = tot ∧ u = .pointer (some ⟨x, i * blk.sz + off, none⟩) ∧ ∃ c ty fz, w.heap[x]? = some (.cells c ty fz) := by
  obtain ⟨blk, hb, ht⟩ := fresh_inv hf
  cases h with
  | stalePtr b tot i off blk' a hb' h => rw [hb] at hb'; cases hb'; omega
  | ptr b tot i off blk' x hb' ht' hi hcx => rw [hb] at hb'; cases hb'; exact ⟨x, blk, hi, hb, ht, rfl, hcx⟩
end
end Go.Ab
namespace Go.Ab
open Go Go.RowKit

theorem asIntOf_run {P : Program} {w : World} {k : IntKind} {n : Int} : (asIntOf (.int k n)).run P w = .ok (k, n) w := rfl

set_option maxHeartbeats 1000000 in
theorem qfun_sound {P : Program} {H : List ABlk} {ρ : Operand → AV} {o : Oper} {v : AV} (h : qfun P H ρ o.op = some v) : QOp P H ρ o v := by
  refine QOp.of_run fun w0 O ι a w hs hv => ?_
  obtain ⟨dst, op, ty, pos, after, guard⟩ := o
  simp only at h hv
  unfold qfun at h
  split at h
  · rename_i x
    injection h with h; subst h
    exact ⟨_, rfl, hv x (by simp [Op.operands])⟩
  · rename_i x
    injection h with h; subst h
    exact ⟨_, rfl, hv x (by simp [Op.operands])⟩
  · -- pick
    rename_i c x y
    split at h
    · rename_i t hc
      have h1 := hv c (by simp [Op.operands]); rw [hc] at h1
      have h1 := h1.base_inv
      unfold pickF at h
      split at h
      · rename_i p q hp hq
        injection h with h; subst h
        cases t with
        | true =>
          have h2 := (hv x (by simp [Op.operands])).strip (c := true) rfl
          rw [hp] at h2
          have h2 := h2.base_inv
          exact ⟨.bool p, by simp [execOp, h1, asBool, h2], .base _⟩
        | false =>
          have h2 := (hv y (by simp [Op.operands])).strip (c := !false) rfl
          rw [hq] at h2
          have h2 := h2.base_inv
          exact ⟨.bool q, by simp [execOp, h1, asBool, h2], .base _⟩
      · cases h
    · cases h
  · -- load
    rename_i t x
    split at h
    · rename_i e off hx
      have h1 := hv x (by simp [Op.operands]); rw [hx] at h1
      obtain ⟨ad, h2, h3, h4, h5⟩ := h1.iptr_inv
      obtain ⟨u, hu, hvu⟩ := ldE_run (P := P) h h5
      have hadd : (⟨ad.block, ad.off - off + off, none⟩ : Addr) = ad := by cases ad; simp_all
      rw [hadd] at hu
      exact ⟨u, by simp [execOp, h2, Instr.loadAt, Instr.sureAddr, hu], hvu⟩
    · rename_i b tot i off hx
      have h1 := hv x (by simp [Op.operands]); rw [hx] at h1
      split at h
      · rename_i blk hb
        split at h
        · rename_i ht
          split at h
          · rename_i e he
            obtain ⟨y, hy, h2, h3⟩ := h1.ptr_inv hs hb ht he
            obtain ⟨u, hu, hvu⟩ := ldE_run (P := P) h h3
            exact ⟨u, by simp [execOp, h2, Instr.loadAt, Instr.sureAddr, hu], hvu⟩
          · cases h
        · cases h
      · cases h
    · cases h
  · -- fieldAddr
    rename_i s x f
    split at h
    · rename_i n e off hn hx
      injection h with h; subst h
      have h1 := hv x (by simp [Op.operands]); rw [hx] at h1
      generalize hx' : a.eval x = X at h1
      cases h1 with
      | iptr e off ad val hsp hoff hc hvv =>
      refine ⟨.pointer (some ⟨ad.block, ad.off + n, none⟩), ?_, ?_⟩
      · have hr := fieldPlace_run hn ad hsp (w := w)
        simp only [execOp, hx', Sem.run_bind, hr, Result.andThen_ok, Sem.run_pure]
      · exact .iptr e (off + n) _ val rfl (by simp; omega) (fun j c hj => by have := hc j c hj; rw [show ad.off + n - (off + n) = ad.off - off by omega]; exact this) hvv
    · rename_i n b tot i off hn hx
      split at h
      · rename_i hf
        injection h with h; subst h
        have h1 := hv x (by simp [Op.operands]); rw [hx] at h1
        obtain ⟨y, blk, hi, hb, ht, h2, hcx⟩ := h1.ptr_fresh hf
        refine ⟨.pointer (some ⟨y, i * blk.sz + off + n, none⟩), by have hr := fieldPlace_run hn ⟨y, i * blk.sz + off, none⟩ rfl (w := w); simp only [execOp, h2, Sem.run_bind, hr, Result.andThen_ok, Sem.run_pure], ?_⟩
        rw [Nat.add_assoc]
        exact .ptr b tot i (off + n) blk y hb ht hi hcx
      · cases h
    · cases h
  · -- field
    rename_i t x f
    split at h
    · rename_i cs hx
      have h1 := hv x (by simp [Op.operands]); rw [hx] at h1
      obtain ⟨arr, h2, h3, h4⟩ := h1.agg_inv
      unfold fieldF at h
      split at h
      · rename_i fs hu
        split at h
        · rename_i fd hf
          obtain ⟨u, hr, hvu⟩ := part_run (P := P) h3 h4 h
          exact ⟨u, by simp [execOp, h2, Instr.field, run_underlying hu, hf, asAgg, hr], hvu⟩
        · cases h
      · cases h
    · cases h
  · -- binOp
    rename_i op t x y yt
    obtain ⟨u, h1, h2, h3⟩ := binF_run (X := x) (Y := y) h (hv x (by simp [Op.operands])) (hv y (by simp [Op.operands]))
    exact ⟨u, by simp [execOp, h1, h2], h3⟩
  · rename_i t x
    split at h
    · rename_i b hx
      injection h with h; subst h
      have h1 := hv x (by simp [Op.operands]); rw [hx] at h1
      have h1 := h1.base_inv
      exact ⟨_, by simp [execOp, h1, Op.unary], .base _⟩
    · cases h
  · rename_i t x
    split at h
    · rename_i k n hx
      injection h with h; subst h
      have h1 := hv x (by simp [Op.operands]); rw [hx] at h1
      have h1 := h1.base_inv
      exact ⟨_, by simp only [execOp, h1, Op.unary, Op.intArith, Sem.run_bind, Sem.run_pure, Result.andThen_ok], .base _⟩
    · cases h
  · -- extract
    rename_i x i
    split at h
    · rename_i vs hx
      have h1 := hv x (by simp [Op.operands]); rw [hx] at h1
      obtain ⟨arr, h2, h3, h4⟩ := h1.tup_inv
      obtain ⟨u, hu⟩ := cells_getD h3 (List.getElem?_eq_some_iff.1 h).1
      exact ⟨u, by simp [execOp, h2, Instr.extract, hu], h4 _ _ _ h hu⟩
    · cases h
  · -- nilCheck
    rename_i x
    split at h
    · rename_i b tot i off hx
      split at h
      · rename_i hf
        injection h with h; subst h
        have h1 := hv x (by simp [Op.operands]); rw [hx] at h1
        obtain ⟨y, blk, hi, hb, ht, h2⟩ := h1.ptr_fresh hf
        exact ⟨a.eval x, by simp [execOp, h2], h1⟩
      · cases h
    · rename_i e off hx
      injection h with h; subst h
      have h1 := hv x (by simp [Op.operands]); rw [hx] at h1
      obtain ⟨ad, h2, h3, h4, h5⟩ := h1.iptr_inv
      exact ⟨a.eval x, by simp [execOp, h2], h1⟩
    · cases h
  · -- convert
    rename_i s d x
    split at h
    · rename_i k n hx
      split at h
      · rename_i sd k' hsd hd
        injection h with h; subst h
        have h1 := hv x (by simp [Op.operands]); rw [hx] at h1
        have h1 := h1.base_inv
        exact ⟨_, by simp [execOp, h1, convert, run_underlying hsd, run_underlying hd, Conv.intToInt], .base _⟩
      · cases h
    · cases h
  · -- makeFunc
    rename_i f first caps
    split at h
    case h_2 => cases h
    rename_i hfirst
    injection h with h; subst h
    have hfirst : first = #[] := by cases first; simp_all
    subst hfirst
    refine ⟨.func (.func f) #[] (caps.map a.eval), by simp only [execOp, Instr.makeFunc, Sem.run_bind, Sem.run_pure, Result.andThen_ok, List.map_toArray, List.map_nil], ?_⟩
    refine .clo _ _ _ (by simp) fun j c u hj hu => ?_
    simp only [List.getElem?_map, Array.getElem?_map, Array.getElem?_toList, Option.map_eq_some_iff] at hj hu
    obtain ⟨x, hx, rfl⟩ := hj
    obtain ⟨y, hy, rfl⟩ := hu
    rw [hx] at hy; cases hy
    exact hv x (by simp only [Op.operands, Array.empty_append]; exact Array.mem_of_getElem? hx)
  · -- len
    rename_i cl
    split at h
    case h_2 => cases h
    rename_i x t h5 h6 h7
    obtain ⟨ce, as, ts⟩ := cl
    simp only at h5 h6 h7
    subst h5
    have h6 : as = #[x] := by cases as; simp_all
    have h7 : ts = #[t] := by cases ts; simp_all
    subst h6; subst h7
    obtain ⟨u, h1, h2⟩ := lenF_run (P := P) (ty := ty) h (hv x (by simp [Op.operands, Call.operands]))
    refine ⟨u, ?_, h2⟩
    simp only [execOp, resolve, invoke, builtin, Sem.run_bind, Sem.run_pure, Result.andThen_ok, List.map_toArray, List.map_cons, List.map_nil, h1]
  · cases h
end Go.Ab
namespace Go.Ab
open Go Go.RowKit

abbrev noB : Nat → Option Nat := fun _ => none

def Pu (a : AV) : Prop := ∀ (w : World) (O : Nat → Prop) (ι : Nat → Option Nat) (H : List ABlk) (u : Value), VR w O ι H a u → VR w O noB [] a u

theorem VR.back {w : World} {O : Nat → Prop} {ι : Nat → Option Nat} {H : List ABlk} {a : AV} {u : Value} (h : VR w O noB [] a u) : VR w O ι H a u :=
  h.mono ⟨fun _ _ _ h => h, fun _ _ h _ => h, fun b blk h => by simp at h, fun b x blk blk' c ty fz h => by simp at h⟩
theorem VR.lessO {w : World} {O O' : Nat → Prop} {ι : Nat → Option Nat} {H : List ABlk} {a : AV} {u : Value} (h : VR w O ι H a u) (hO : ∀ x, O' x → O x) : VR w O' ι H a u :=
  h.mono ⟨fun _ _ _ h => h, fun _ _ h _ h' => h (hO _ h'), fun b blk h => ⟨blk, h, Nat.le_refl _, fun _ => ⟨rfl, rfl⟩⟩,
    fun b x blk blk' c ty fz _ _ _ _ h => ⟨c, ty, fz, h, rfl⟩⟩

theorem Pu.base (v : Value) : Pu (.base v) := fun w O ι H u h => by cases h; exact .base _
theorem Pu.mem (cs : List (Addr × Value)) : Pu (.mem cs) := fun w O ι H u h => by
  cases h with
  | mem _ _ h => exact .mem cs u h
theorem Pu.lst {es : List AV} (h : ∀ e ∈ es, ∀ c ∈ e.cells, Pu c) : Pu (.lst es) := fun w O ι H u hu => by
  cases hu with
  | lnil => exact .lnil
  | lst es a n cap s val hn hcap hmax hlen hspot hc hv =>
    exact .lst es a n cap s val hn hcap hmax hlen hspot hc fun i j e c he hj => h e (List.mem_of_getElem? he) c (List.mem_of_getElem? hj) _ _ _ _ _ (hv i j e c he hj)
theorem Pu.agg {cs : List AV} (h : ∀ c ∈ cs, Pu c) : Pu (.agg cs) := fun w O ι H u hu => by
  cases hu with
  | agg cs arr hlen hh => exact .agg cs arr hlen fun j c u hc hu => h c (List.mem_of_getElem? hc) _ _ _ _ _ (hh j c u hc hu)
theorem Pu.tup {cs : List AV} (h : ∀ c ∈ cs, Pu c) : Pu (.tup cs) := fun w O ι H u hu => by
  cases hu with
  | tup cs arr hlen hh => exact .tup cs arr hlen fun j c u hc hu => h c (List.mem_of_getElem? hc) _ _ _ _ _ (hh j c u hc hu)
theorem Pu.clo {f : FuncId} {cs : List AV} (h : ∀ c ∈ cs, Pu c) : Pu (.clo f cs) := fun w O ι H u hu => by
  cases hu with
  | clo f cs arr hlen hh => exact .clo f cs arr hlen fun j c u hc hu => h c (List.mem_of_getElem? hc) _ _ _ _ _ (hh j c u hc hu)
theorem Pu.iptr {e : AV} {off : Nat} (h : ∀ c ∈ e.cells, Pu c) : Pu (.iptr e off) := fun w O ι H u hu => by
  cases hu with
  | iptr e off a val hs hoff hc hv => exact .iptr e off a val hs hoff hc fun j c hj => h c (List.mem_of_getElem? hj) _ _ _ _ _ (hv j c hj)

def FnM (P : Program) (m : List (Addr × Value)) (f : FuncId) (args : List AV) (d : AV) : Prop :=
  (∃ fn, P.funcs[f]? = some fn ∧ (fn.name == "runtime.NumGoroutine") = false ∧ fn.body.isNone = false) ∧
  ∀ (w : World) (O : Nat → Prop) (vs : Array Value), (∀ p ∈ m, ¬ O p.1.block ∧ w.cell? p.1 = some p.2) → (∀ x, O x → x < w.heap.size) → vs.size = args.length →
    (∀ (j : Nat) (a : AV) (u : Value), args[j]? = some a → vs[j]? = some u → VR w O noB [] a u) →
    Calls P f vs w fun e w' => ∃ v, e = .returned v ∧ VR w' O noB [] d v ∧ Below w.heap.size w w'
abbrev Fn (P : Program) (f : FuncId) (args : List AV) (d : AV) : Prop := FnM P [] f args d
def MemIn (m : List (Addr × Value)) (ρ : Operand → AV) : Prop := m = [] ∨ ρ (.tmp memSlot) = .mem m
theorem MemIn.get {m : List (Addr × Value)} {ρ : Operand → AV} (h : MemIn m ρ) {w : World} {O : Nat → Prop} {ι : Nat → Option Nat} {H : List ABlk} {u : Value} (hv : VR w O ι H (ρ (.tmp memSlot)) u) : ∀ p ∈ m, ¬ O p.1.block ∧ w.cell? p.1 = some p.2 := by
  rcases h with rfl | h
  · intro p hp; cases hp
  · rw [h] at hv
    cases hv with
    | mem cs v h => exact h
theorem FnM.of {P : Program} {f : FuncId} {args : List AV} {d : AV} {m : List (Addr × Value)} (h : Fn P f args d) : FnM P m f args d := ⟨h.1, fun w O vs _ => h.2 w O vs (fun _ hp => nomatch hp)⟩

section
variable {P : Program} {w w' : World} {w0 : Base} {O : Nat → Prop} {ι : Nat → Option Nat} {H : List ABlk} {u : Value}

theorem Goes.quiet (hs : Sit w0 O ι H w) (hb : Below w.heap.size w w') : Goes w (OO O ι H) ι H w' (OO O ι H) ι H :=
  ⟨fun p u _ h => by rw [hb.cell (World.block_lt_of_cell? _ _ h)]; exact h, fun _ _ h _ => h,
   fun b blk h => ⟨blk, h, Nat.le_refl _, fun _ => ⟨rfl, rfl⟩⟩,
   fun b x blk blk' c ty fz h1 h2 _ hi h => by
     have hlt : x < w.heap.size := by
       rcases Nat.lt_or_ge x w.heap.size with h' | h'
       · exact h'
       · rw [Array.getElem?_eq_none h'] at h; cases h
     exact ⟨c, ty, fz, by rw [hb.block x hlt]; exact h, rfl⟩⟩

theorem BR.mono {O' : Nat → Prop} {ι' : Nat → Option Nat} {H' : List ABlk} {blk : ABlk} {x : Nat} (h : BR w O ι H blk x) (g : Goes w O ι H w' O' ι' H') (hx : w'.heap[x]? = w.heap[x]?) : BR w' O' ι' H' blk x := by
  obtain ⟨c, h1, h2, h3, h4⟩ := h.row
  exact ⟨c, (rowAt_same hx).trans h1, h2, h3, fun i j e d he hd => by
    obtain ⟨u, hu, hv⟩ := h4 i j e d he hd
    exact ⟨u, hu, hv.mono g⟩⟩

theorem BR.lt {blk : ABlk} {x : Nat} (h : BR w O ι H blk x) : x < w.heap.size := by
  obtain ⟨c, h1, _⟩ := h.row
  exact rowAt_lt h1

theorem Sit.quiet (hs : Sit w0 O ι H w) (hb : Below w.heap.size w w') : Sit w0 O ι H w' :=
  ⟨fun b blk x h1 h2 => by
      obtain ⟨h3, h4⟩ := hs.heap b blk x h1 h2
      exact ⟨h3, h4.mono (Goes.quiet hs hb) (hb.block x h4.lt)⟩,
   hs.empt, hs.inj, hs.below.step hb, fun x hx => Nat.lt_of_lt_of_le (hs.old x hx) hb.size, hs.disj, hs.hist.trans (Goes.quiet hs hb).grow⟩

theorem callFunc_run {f : FuncId} {fn : Func} (hf : P.funcs[f]? = some fn) (hn : (fn.name == "runtime.NumGoroutine") = false) (hb : fn.body.isNone = false) (args : Array Value) :
    (callFunc f args).run P w = .ok (.enter f args) w := by
  simp only [callFunc, Sem.run_bind, run_program, Result.andThen_ok, hf, hn, hb, Bool.false_eq_true, if_false, Sem.run_pure]

theorem q_call {ρ : Operand → AV} {o : Oper} {c : Call} {fx : Operand} {f : FuncId} {caps : List AV} {d : AV} (ho : o.op = .call c) (hc : c.callee = .value fx)
    (hf : ρ fx = .clo f caps) (hp : ∀ a ∈ c.args.toList.map ρ ++ caps, Pu a) {m : List (Addr × Value)} (h : FnM P m f (c.args.toList.map ρ ++ caps) d) (hm : MemIn m ρ) : QOp P H ρ o d := by
  intro w0 O ι a w hs hv K Q hK
  obtain ⟨⟨fn, h1, h2, h3⟩, h4⟩ := h
  have hmem : ∀ y, y = fx ∨ y ∈ c.args → y ∈ o.op.operands := by
    intro y hy
    rw [ho]
    simp only [Op.operands, Call.operands, hc, Array.mem_append, List.mem_toArray, List.mem_singleton]
    exact hy
  have h5 := hv fx (.inl (hmem _ (.inl rfl)))
  rw [hf] at h5
  generalize hX : a.eval fx = X at h5
  cases h5 with
  | clo f caps arr hlen hcap =>
  have hargs : ∀ (j : Nat) (x : AV) (u : Value), (c.args.toList.map ρ ++ caps)[j]? = some x → (c.args.map a.eval ++ arr)[j]? = some u → VR w (OO O ι H) ι H x u := by
    intro j x u hx hu
    rw [List.getElem?_append] at hx
    rw [Array.getElem?_append] at hu
    simp only [List.length_map, Array.length_toList, Array.size_map] at hx hu
    split at hx
    · rename_i hj
      rw [if_pos hj] at hu
      simp only [List.getElem?_map, Array.getElem?_map, Array.getElem?_toList, Option.map_eq_some_iff] at hx hu
      obtain ⟨y, hy, rfl⟩ := hx
      obtain ⟨z, hz, rfl⟩ := hu
      rw [hy] at hz; cases hz
      exact hv y (.inl (hmem _ (.inr (Array.mem_of_getElem? hy))))
    · rename_i hj
      rw [if_neg hj] at hu
      exact hcap _ _ _ hx hu
  have hrun : (execOp a.eval o).run P w = .ok (.enter f (c.args.map a.eval ++ arr)) w := by
    unfold execOp
    rw [ho]
    simp only [resolve, hc, Deferred.ofValue, hX, Sem.run_bind, Sem.run_pure, Result.andThen_ok, invoke, Array.empty_append, callFunc_run h1 h2 h3]
  unfold Oper.wp
  rw [hrun, Oper.upon_enter]
  refine (h4 w (OO O ι H) (c.args.map a.eval ++ arr) (hm.get (hv _ (.inr rfl))) ?_ (by simp [hlen]) fun j x u hx hu => hp x (List.mem_of_getElem? hx) _ _ _ _ _ (hargs j x u hx hu)).mono ?_
  · rintro x (hx | ⟨b, hb, hx⟩)
    · exact hs.old x hx
    · have hbk : H[b]? = some H[b] := List.getElem?_eq_getElem hb
      exact (hs.heap b _ x hbk hx).2.lt
  · rintro e w' ⟨v, rfl, hv', hb'⟩
    exact hK v w' hv'.back hb'
end
end Go.Ab
namespace Go.Ab
open Go Go.RowKit

structure LOp where
  dst : Option Tmp
  op : Op
  g : Option (Tmp × Bool)
  ty : TypeId

def lite (D : List (Option Tmp)) (o : Oper) : LOp :=
  ⟨o.dst, o.op, match o.guard with
    | none => none
    | some (j, want) => match D[j]? with
      | some (some t) => some (t, want)
      | _ => some (1000000000, want), o.type⟩

def dstOk (n : Fr) : Option Tmp → Bool
  | some t => Nat.blt t n.n
  | none => true

def gc (b want : Bool) : Bool := bif want then b else !b
theorem gc_eq (b want : Bool) : (b == want) = gc b want := by cases b <;> cases want <;> rfl

def gval (want : Bool) : AV → Option (List Bool)
  | .base (.bool b) => some [gc b want]
  | .under g a => match gval want a with
    | some l => some (g :: l)
    | none => none
  | _ => none

def putE (E : Env) : Option Tmp → AV → Env
  | some t, v => (t, v) :: E
  | none, _ => E

def QL (P : Program) (H : List ABlk) (ρ : Operand → AV) (op : Op) (v : AV) : Prop := ∀ o : Oper, o.op = op → QOp P H ρ o v
def QLt (P : Program) (H : List ABlk) (ρ : Operand → AV) (op : Op) (ty : TypeId) (v : AV) : Prop := ∀ o : Oper, o.op = op → o.type = ty → QOp P H ρ o v
theorem QL.t {P : Program} {H : List ABlk} {ρ : Operand → AV} {op : Op} {ty : TypeId} {v : AV} (h : QL P H ρ op v) : QLt P H ρ op ty v := fun o ho _ => h o ho

def PL (P : Program) (H : List ABlk) (ρ : Operand → AV) (op : Op) (v : AV) (H' : List ABlk) : Prop :=
  ∀ (o : Oper), o.op = op → ∀ (w0 : Base) (O : Nat → Prop) (ι : Nat → Option Nat) (a : Act) (w : World), Sit w0 O ι H w →
    (∀ x, VR w (OO O ι H) ι H (ρ x) (a.eval x)) →
    ∀ (K : Act → World → Prop) (Q : Exit → Act → World → Prop),
      (∀ u w' ι', Sit w0 O ι' H' w' → Goes w (OO O ι H) ι H w' (OO O ι' H') ι' H' → VR w' (OO O ι' H') ι' H' v u → K (a.put o.dst u) w') → o.wp P a w K Q

inductive Tr (P : Program) (n : Fr) (q : Bool) : List LOp → ASt → ASt → Prop
  | nil (s : ASt) : Tr P n q [] s s
  | q1 (o : LOp) (l : List LOp) (s : ASt) (v : AV) (s' : ASt) (hg : o.g = none) (hd : dstOk n o.dst = true) (h : QLt P s.H (ev s.env) o.op o.ty v)
      (hr : Tr P n q l ⟨putE s.env o.dst v, s.H⟩ s') : Tr P n q (o :: l) s s'
  | p1 (o : LOp) (l : List LOp) (s : ASt) (v : AV) (H' : List ABlk) (s' : ASt) (hq : q = false) (hg : o.g = none) (hd : dstOk n o.dst = true) (h : PL P s.H (ev s.env) o.op v H')
      (hr : Tr P n q l ⟨putE s.env o.dst v, H'⟩ s') : Tr P n q (o :: l) s s'
  | gf (o : LOp) (l : List LOp) (s : ASt) (t : Tmp) (want b : Bool) (s' : ASt) (hg : o.g = some (t, want)) (hd : dstOk n o.dst = true) (hb : lk s.env t = .base (.bool b)) (hw : gc b want = false)
      (hr : Tr P n q l ⟨putE s.env o.dst .bad, s.H⟩ s') : Tr P n q (o :: l) s s'
  | gq (o : LOp) (l : List LOp) (s : ASt) (t : Tmp) (want : Bool) (L : List Bool) (v : AV) (s' : ASt) (hg : o.g = some (t, want)) (hd : dstOk n o.dst = true) (hb : gval want (lk s.env t) = some L)
      (h : allL L = true → QL P s.H (fun x => stripL L (ev s.env x)) o.op v)
      (hr : Tr P n q l ⟨putE s.env o.dst (wrapL L v), s.H⟩ s') : Tr P n q (o :: l) s s'
  | gp (o : LOp) (l : List LOp) (s : ASt) (t : Tmp) (want : Bool) (L : List Bool) (v : AV) (H' : List ABlk) (s' : ASt) (hq : q = false) (hg : o.g = some (t, want)) (hd : dstOk n o.dst = true) (hb : gval want (lk s.env t) = some L)
      (hw : allL L = true) (h : PL P s.H (fun x => stripL L (ev s.env x)) o.op v H')
      (hr : Tr P n q l ⟨putE s.env o.dst v, H'⟩ s') : Tr P n q (o :: l) s s'

def qstep (P : Program) (n : Fr) (o : LOp) (s : ASt) : Option ASt :=
  match dstOk n o.dst with
  | true => match o.g with
    | none => match qfun P s.H (ev s.env) o.op with
      | some v => some ⟨putE s.env o.dst v, s.H⟩
      | none => none
    | some (t, want) => match gval want (lk s.env t) with
      | some L => match qfun P s.H (fun x => stripL L (ev s.env x)) o.op with
        | some v => some ⟨putE s.env o.dst (wrapL L v), s.H⟩
        | none => none
      | none => none
  | false => none

def batch (P : Program) (n : Fr) : List LOp → ASt → List LOp × ASt
  | [], s => ([], s)
  | o :: l, s => match qstep P n o s with
    | some s1 => batch P n l s1
    | none => (o :: l, s)

theorem Tr.qstep {P : Program} {n : Fr} {q : Bool} {o : LOp} {l : List LOp} {s s1 s' : ASt} (h : qstep P n o s = some s1) (hr : Tr P n q l s1 s') : Tr P n q (o :: l) s s' := by
  unfold Ab.qstep at h
  split at h
  · rename_i hd
    split at h
    · rename_i hg
      split at h
      · rename_i v hv
        injection h with h; subst h
        exact .q1 o l s v s' hg hd (fun o' ho' _ => qfun_sound (by rw [ho']; exact hv)) hr
      · cases h
    · rename_i t want hg
      split at h
      · rename_i L hb
        split at h
        · rename_i v hv
          injection h with h; subst h
          exact .gq o l s t want L v s' hg hd hb (fun _ o' ho' => qfun_sound (by rw [ho']; exact hv)) hr
        · cases h
      · cases h
  · cases h

theorem Tr.batch {P : Program} {n : Fr} {q : Bool} {s' : ASt} : ∀ {l r : List LOp} {s s1 : ASt}, batch P n l s = (r, s1) → Tr P n q r s1 s' → Tr P n q l s s'
  | [], r, s, s1, h, hr => by cases h; exact hr
  | o :: l, r, s, s1, h, hr => by
    simp only [Ab.batch] at h
    split at h
    · rename_i s2 h2
      exact .qstep h2 (Tr.batch h hr)
    · cases h; exact hr

section
variable {P : Program} {n : Fr} {w w' : World} {w0 : Base} {O : Nat → Prop} {ι ι' : Nat → Option Nat} {H H' : List ABlk} {u : Value}

theorem QL.toP {ρ : Operand → AV} {op : Op} {v : AV} (h : QL P H ρ op v) : PL P H ρ op v H :=
  fun o ho w0 O ι a w hs hv K Q hK => h o ho w0 O ι a w hs (fun x _ => hv x) K Q fun u w' hu hb => hK u w' ι (hs.quiet hb) (Goes.quiet hs hb) hu

theorem put_get {a : Act} {d : Tmp} {u : Value} (t : Nat) (hd : d < a.tmps.size) : (a.put (some d) u).tmps.getD t undef = if d = t then u else a.tmps.getD t undef := by
  simp only [Act.put, Array.getD_eq_getD_getElem?, Array.getElem?_setIfInBounds]
  split
  · rename_i h; subst h; simp
  · rfl

theorem SR.put {s : ASt} {a : Act} {d : Option Tmp} {v : AV} (h : SR n w0 O s ι a w) (hs : Sit w0 O ι' H' w') (g : Goes w (OO O ι s.H) ι s.H w' (OO O ι' H') ι' H')
    (hv : VR w' (OO O ι' H') ι' H' v u) (hd : dstOk n d = true) : SR n w0 O ⟨putE s.env d v, H'⟩ ι' (a.put d u) w' := by
  cases d with
  | none => exact ⟨hs, h.defers, h.size, h.hand, fun t => (h.vals t).mono g⟩
  | some d =>
    have hd' : d < a.tmps.size := by rw [h.size]; simpa [dstOk] using hd
    refine ⟨hs, h.defers, by simp [Act.put, h.size], h.hand, fun t => ?_⟩
    rw [put_get t hd']
    show VR _ _ _ _ (if d = t then v else lk s.env t) _
    split
    · exact hv
    · exact (h.vals t).mono g

theorem SR.ops {s : ASt} {a : Act} (h : SR n w0 O s ι a w) (x : Operand) : VR w (OO O ι s.H) ι s.H (ev s.env x) (a.eval x) := VR.ev h.vals x

theorem yielded_of {ops : Array Oper} {D : List (Option Tmp)} (hD : ops.toList.map (·.dst) = D) {tmps : Array Value} {j : Nat} {t : Tmp} {b : Bool} (hj : D[j]? = some (some t)) (ht : t < tmps.size) (hb : tmps.getD t undef = .bool b) :
    yielded ops tmps j = some b := by
  unfold yielded
  have h1 : (ops[j]?).bind (·.dst) = some t := by
    subst hD
    rw [List.getElem?_map, Array.getElem?_toList] at hj
    cases ho : ops[j]? with
    | none => simp [ho] at hj
    | some o => simp [ho] at hj; simp [hj]
  rw [h1]
  have h2 : tmps[t]? = some (.bool b) := by
    rw [Array.getD_eq_getD_getElem?, Array.getElem?_eq_getElem ht] at hb
    rw [Array.getElem?_eq_getElem ht]
    simpa using hb
  simp [h2]

def gOk (D : List (Option Tmp)) (o : Oper) : Bool :=
  match o.guard with
  | none => true
  | some (j, _) => match D[j]? with
    | some (some _) => true
    | _ => false

theorem lite_g_none {D : List (Option Tmp)} {o : Oper} (h : (lite D o).g = none) : o.guard = none := by
  unfold lite at h
  simp only at h
  split at h
  · assumption
  · split at h <;> cases h

theorem lite_g_some {D : List (Option Tmp)} {o : Oper} {t : Tmp} {want : Bool} (hk : gOk D o = true) (h : (lite D o).g = some (t, want)) : ∃ j, o.guard = some (j, want) ∧ D[j]? = some (some t) := by
  unfold gOk at hk
  unfold lite at h
  simp only at h
  split at h
  · cases h
  · rename_i j want' hg
    rw [hg] at hk
    simp only at hk
    split at h
    · rename_i t' hj
      injection h with h; injection h with h1 h2; subst h1; subst h2
      exact ⟨j, hg, hj⟩
    · rename_i hne
      split at hk
      · rename_i x hx; exact absurd hx (hne _)
      · cases hk

theorem bool_lt {a : Act} {t : Tmp} {b : Bool} (h : a.tmps.getD t undef = .bool b) : t < a.tmps.size := by
  rcases Nat.lt_or_ge t a.tmps.size with h' | h'
  · exact h'
  · rw [Array.getD_eq_getD_getElem?, Array.getElem?_eq_none h'] at h
    simp [undef] at h

theorem gval_key {w : World} {O : Nat → Prop} {ι : Nat → Option Nat} {H : List ABlk} {want : Bool} : ∀ (a : AV) (L : List Bool) (u : Value), gval want a = some L → VR w O ι H a u → (∃ b, u = .bool b ∧ allL L = (b == want)) ∨ (u = undef ∧ allL L = false)
  | .base v, L, u, hb, hv => by
    have hv := hv.base_inv
    cases v <;> simp only [gval, Option.some.injEq, reduceCtorEq] at hb
    subst hb
    exact .inl ⟨_, hv, by simp [allL, gc_eq]⟩
  | .under g a, L, u, hb, hv => by
    simp only [gval] at hb
    split at hb
    · rename_i l hl
      injection hb with hb; subst hb
      cases hv with
      | under c a v h0 h =>
      cases hc : g with
      | true =>
        rcases gval_key a l u hl (h hc) with ⟨b, h1, h2⟩ | ⟨h1, h2⟩
        · exact .inl ⟨b, h1, by simp [allL, h2]⟩
        · exact .inr ⟨h1, by simp [allL, h2]⟩
      | false => exact .inr ⟨h0 hc, by simp [allL]⟩
    · cases hb
  | .lst _, L, u, hb, hv => by simp [gval] at hb
  | .agg _, L, u, hb, hv => by simp [gval] at hb
  | .tup _, L, u, hb, hv => by simp [gval] at hb
  | .iptr _ _, L, u, hb, hv => by simp [gval] at hb
  | .own _ _ _ _, L, u, hb, hv => by simp [gval] at hb
  | .ptr _ _ _ _, L, u, hb, hv => by simp [gval] at hb
  | .clo _ _, L, u, hb, hv => by simp [gval] at hb
  | .bad, L, u, hb, hv => by simp [gval] at hb
  | .anyb, L, u, hb, hv => by simp [gval] at hb
  | .view _ _ _ _ _, L, u, hb, hv => by simp [gval] at hb

theorem gval_wanted {ops : Array Oper} {D : List (Option Tmp)} (hD : ops.toList.map (·.dst) = D) {tmps : Array Value} {j : Nat} {t : Tmp} {want : Bool} (hj : D[j]? = some (some t)) {o : Oper} (hg : o.guard = some (j, want)) {O : Nat → Prop} {ι : Nat → Option Nat} {H : List ABlk}
    {a : AV} {L : List Bool} (hb : gval want a = some L) (hv : VR w O ι H a (tmps.getD t undef)) : Region.wanted o (yielded ops tmps) = allL L := by
  rcases gval_key a L _ hb hv with ⟨b, h1, h2⟩ | ⟨h1, h2⟩
  · have ht : t < tmps.size := by
      rcases Nat.lt_or_ge t tmps.size with h' | h'
      · exact h'
      · rw [Array.getD_eq_getD_getElem?, Array.getElem?_eq_none h'] at h1
        simp [undef] at h1
    have hy := yielded_of hD hj ht h1
    simp only [Region.wanted, hg, hy]
    rw [h2]
    cases b <;> cases want <;> rfl
  · rw [h2]
    have hy : yielded ops tmps j = none := by
      unfold yielded
      have e1 : (ops[j]?).bind (·.dst) = some t := by
        subst hD
        rw [List.getElem?_map, Array.getElem?_toList] at hj
        cases ho : ops[j]? with
        | none => simp [ho] at hj
        | some o => simp [ho] at hj; simp [hj]
      rw [e1]
      rw [Array.getD_eq_getD_getElem?] at h1
      simp only [Option.bind_some]
      cases ht : tmps[t]? with
      | none => rfl
      | some u =>
        rw [ht] at h1
        simp only [Option.getD_some] at h1
        subst h1
        rfl
    simp only [Region.wanted, hg, hy]
    cases want <;> rfl

theorem Tr_one {q : Bool} {ops : Array Oper} {D : List (Option Tmp)} (hD : ops.toList.map (·.dst) = D) {i : Nat} {o : Oper} (ho : ops[i]? = some o) (hk : gOk D o = true) {l : List LOp} {s s' : ASt}
    (h : Tr P n q (lite D o :: l) s s') : ∃ s1, Tr P n q l s1 s' ∧ ∀ w0 O ι a w, SR n w0 O s ι a w → ∀ K Q, (∀ ι' a' w', SR n w0 O s1 ι' a' w' → K a' w') →
      wpOp P ops Q i K a w := by
  have key : ∀ (ρ : Operand → AV) (v : AV) (H' : List ABlk), PL P s.H ρ o.op v H' → dstOk n o.dst = true → ∀ w0 O ι a w, SR n w0 O s ι a w → (∀ x, VR w (OO O ι s.H) ι s.H (ρ x) (a.eval x)) → ∀ (v' : AV),
      (∀ w O ι u, VR w O ι H' v u → VR w O ι H' v' u) → ∀ K Q,
      (∀ ι' a' w', SR n w0 O ⟨putE s.env o.dst v', H'⟩ ι' a' w' → K a' w') → o.wp P a w K Q := by
    intro ρ v H' hp hd w0 O ι a w hs hρ v' hv' K Q hK
    exact hp o rfl w0 O ι a w hs.sit hρ K Q fun u w' ι' h1 h2 h3 => hK ι' _ w' (hs.put h1 h2 (hv' _ _ _ _ h3) hd)
  cases h with
  | q1 o' l s v s' hg hd h hr =>
    refine ⟨_, hr, fun w0 O ι a w hs K Q hK => ?_⟩
    have hg := lite_g_none hg
    simp only [wpOp, ho, Region.wanted, hg, if_true]
    exact .inl (h o rfl rfl w0 O ι a w hs.sit (fun x _ => hs.ops x) K Q fun u w' hu hb => hK ι _ w' (hs.put (hs.sit.quiet hb) (Goes.quiet hs.sit hb) hu hd))
  | p1 o' l s v H' s' hq hg hd h hr =>
    refine ⟨_, hr, fun w0 O ι a w hs K Q hK => ?_⟩
    have hg := lite_g_none hg
    simp only [wpOp, ho, Region.wanted, hg, if_true]
    exact .inl (key _ v H' h hd w0 O ι a w hs hs.ops v (fun _ _ _ _ h => h) K Q hK)
  | gf o' l s t want b s' hg hd hb hw hr =>
    refine ⟨_, hr, fun w0 O ι a w hs K Q hK => ?_⟩
    obtain ⟨j, hg, hj⟩ := lite_g_some hk hg
    have hv := hs.vals t; rw [hb] at hv
    have hv := hv.base_inv
    have hy := yielded_of hD hj (bool_lt hv) hv
    have hwant : Region.wanted o (yielded ops a.tmps) = false := by
      simp only [Region.wanted, hg, hy]
      rw [← gc_eq] at hw
      cases b <;> cases want <;> simp_all
    simp only [wpOp, ho, hwant]
    exact hK ι _ w (hs.put hs.sit (Goes.quiet hs.sit (Below.refl _ _)) (.bad _) hd)
  | gq o' l s t want L v s' hg hd hb h hr =>
    refine ⟨_, hr, fun w0 O ι a w hs K Q hK => ?_⟩
    obtain ⟨j, hg, hj⟩ := lite_g_some hk hg
    have hwant := gval_wanted hD hj hg hb (hs.vals t)
    cases hc : allL L with
    | true =>
      rw [hc] at hwant
      simp only [wpOp, ho, hwant, if_true]
      exact .inl (key _ v s.H (h hc).toP hd w0 O ι a w hs (fun x => (hs.ops x).strips hc) (wrapL L v) (fun _ _ _ _ h => h.wraps hc) K Q hK)
    | false =>
      rw [hc] at hwant
      simp only [wpOp, ho, hwant]
      exact hK ι _ w (hs.put hs.sit (Goes.quiet hs.sit (Below.refl _ _)) (.wrapsN hc) hd)
  | gp o' l s t want L v H' s' hq hg hd hb hw h hr =>
    refine ⟨_, hr, fun w0 O ι a w hs K Q hK => ?_⟩
    obtain ⟨j, hg, hj⟩ := lite_g_some hk hg
    have hwant := gval_wanted hD hj hg hb (hs.vals t)
    rw [hw] at hwant
    simp only [wpOp, ho, hwant, if_true]
    exact .inl (key _ v H' h hd w0 O ι a w hs (fun x => (hs.ops x).strips hw) v (fun _ _ _ _ h => h) K Q hK)

def normQ (w0 : Base) (O : Nat → Prop) (n : Fr) (s' : ASt) (e : Exit) (a : Act) (w : World) : Prop := e = .normal ∧ ∃ ι', SR n w0 O s' ι' a w

theorem Tr_ops {ops : Array Oper} {D : List (Option Tmp)} (hD : ops.toList.map (·.dst) = D) (hk : ops.toList.all (gOk D) = true) {q : Bool} : ∀ (l : List Oper) (i : Nat) (s s' : ASt), ops.toList.drop i = l → Tr P n q (l.map (lite D)) s s' →
    ∀ w0 O ι a w, SR n w0 O s ι a w → wpOps P ops (normQ w0 O n s') (List.range' i l.length) a w
  | [], i, s, s', hl, h, w0, O, ι, a, w, hs => by
    cases h
    exact ⟨rfl, ι, hs⟩
  | o :: l, i, s, s', hl, h, w0, O, ι, a, w, hs => by
    have ho : ops[i]? = some o := by
      rw [← Array.getElem?_toList]
      have := congrArg (·[0]?) hl
      simpa using this
    have hok : gOk D o = true := List.all_eq_true.1 hk o (List.mem_of_mem_drop (by rw [hl]; simp))
    have hl' : ops.toList.drop (i + 1) = l := by
      rw [← List.drop_drop, hl]; rfl
    obtain ⟨s1, h1, h2⟩ := Tr_one hD ho hok h
    simp only [List.length_cons, List.range'_succ, wpOps_cons]
    exact h2 w0 O ι a w hs _ _ fun ι' a' w' hs' => Tr_ops hD hk l (i + 1) s1 s' hl' h1 w0 O ι' a' w' hs'
end
end Go.Ab
namespace Go.Ab
open Go Go.RowKit

def readsOf (D : List (Option Tmp)) (o : Oper) : List Tmp :=
  memSlot :: (o.op.operands.toList.filterMap fun | .tmp t => some t | _ => none) ++
  (match o.guard with
   | some (j, _) => match D[j]? with
     | some (some t) => [t]
     | _ => []
   | none => [])

def hasEdge (o : Oper) (j : Nat) : Bool := o.after.any fun e => e.on == j && Region.binds .any e

def reach (ops : Array Oper) : Nat → Oper → Nat → Bool
  | 0, o, j => hasEdge o j
  | f + 1, o, j => hasEdge o j || o.after.any fun e => Region.binds .any e && (match ops[e.on]? with | some o' => reach ops f o' j | none => false)

def drawOk (D : List (Option Tmp)) (ops : Array Oper) (k : Nat) : Bool :=
  let os := ops.toList.zipIdx
  let qs := (D.take k).zipIdx
  (os.all fun (o, i) => o.after.all fun e => !Region.binds .any e || decide (e.on < i)) &&
  (qs.all fun (d, i) => qs.all fun (d', j) => i == j || d.isNone || d != d') &&
  (os.all fun (o, i) =>
    if i < k then (readsOf D o).all fun t => qs.all fun (d, j) => d != some t || (decide (j < i) && hasEdge o j)
    else (List.range i).all fun j => reach ops 8 o j)

section
variable {P : Program} {n : Fr} {w w' : World} {w0 : Base} {O : Nat → Prop} {ι ι' : Nat → Option Nat} {H H' : List ABlk} {u : Value}

structure SRF (n : Fr) (w0 : Base) (O : Nat → Prop) (f : Nat → AV) (H : List ABlk) (ι : Nat → Option Nat) (a : Act) (w : World) : Prop where
  sit : Sit w0 O ι H w
  defers : a.defers = []
  size : a.tmps.size = n.n
  hand : w0.H.length = n.m
  vals : ∀ t, VR w (OO O ι H) ι H (f t) (a.tmps.getD t undef)

def evF (f : Nat → AV) : Operand → AV
  | .tmp t => f t
  | .const v => cv v
  | .global g => .base (.pointer (some ⟨g, 0, none⟩))
  | .func g => .clo g []

theorem SRF.ops {f : Nat → AV} {a : Act} (h : SRF n w0 O f H ι a w) (x : Operand) : VR w (OO O ι H) ι H (evF f x) (a.eval x) := by
  cases x with
  | tmp t => exact h.vals t
  | const v => exact VR.cv _ _ _ _ v
  | global g => exact .base _
  | func f => exact .clo f [] #[] rfl (by simp)

theorem ev_eq (E : Env) (x : Operand) : ev E x = evF (lk E) x := by cases x <;> rfl

inductive StepF (P : Program) (n : Fr) (H : List ABlk) (f : Nat → AV) (o : LOp) : AV → Prop
  | q1 (v : AV) (hg : o.g = none) (hd : dstOk n o.dst = true) (h : QLt P H (evF f) o.op o.ty v) : StepF P n H f o v
  | gf (t : Tmp) (want b : Bool) (hg : o.g = some (t, want)) (hd : dstOk n o.dst = true) (hb : f t = .base (.bool b)) (hw : gc b want = false) : StepF P n H f o .bad
  | gq (t : Tmp) (want : Bool) (L : List Bool) (v : AV) (hg : o.g = some (t, want)) (hd : dstOk n o.dst = true) (hb : gval want (f t) = some L)
      (h : allL L = true → QL P H (fun x => stripL L (evF f x)) o.op v) : StepF P n H f o (wrapL L v)

theorem Tr.quietStep {o : LOp} {l : List LOp} {s s' : ASt} (h : Tr P n true (o :: l) s s') : ∃ v, StepF P n s.H (lk s.env) o v ∧ Tr P n true l ⟨putE s.env o.dst v, s.H⟩ s' := by
  have he : ∀ E : Env, ev E = evF (lk E) := fun E => funext (ev_eq E)
  cases h with
  | q1 o l s v s' hg hd h hr => exact ⟨v, .q1 v hg hd (by rw [← he]; exact h), hr⟩
  | p1 o l s v H' s' hq hg hd h hr => cases hq
  | gf o l s t want b s' hg hd hb hw hr => exact ⟨_, .gf t want b hg hd hb hw, hr⟩
  | gq o l s t want L v s' hg hd hb h hr => exact ⟨_, .gq t want L v hg hd hb (fun hc => by rw [← he]; exact h hc), hr⟩
  | gp o l s t want L v H' s' hq hg hd hb hw h hr => cases hq

def updF (f : Nat → AV) (d : Option Tmp) (v : AV) : Nat → AV := fun t => if d = some t then v else f t

theorem lk_putE (E : Env) (d : Option Tmp) (v : AV) : lk (putE E d v) = updF (lk E) d v := by
  funext t
  cases d with
  | none => simp [putE, updF]
  | some d => simp [putE, updF, lk]

theorem SRF.put {f : Nat → AV} {a : Act} {d : Option Tmp} {v : AV} (h : SRF n w0 O f H ι a w) (hb : Below w.heap.size w w')
    (hv : VR w' (OO O ι H) ι H v u) (hd : dstOk n d = true) : SRF n w0 O (updF f d v) H ι (a.put d u) w' := by
  have g := Goes.quiet h.sit hb
  cases d with
  | none => exact ⟨h.sit.quiet hb, h.defers, h.size, h.hand, fun t => by
      show VR _ _ _ _ (if none = some t then v else f t) _
      rw [if_neg (by simp)]
      exact (h.vals t).mono g⟩
  | some d =>
    have hd' : d < a.tmps.size := by rw [h.size]; simpa [dstOk] using hd
    refine ⟨h.sit.quiet hb, h.defers, by simp [Act.put, h.size], h.hand, fun t => ?_⟩
    rw [put_get t hd']
    unfold updF
    by_cases e : d = t
    · subst e; simpa using hv
    · simpa [e] using (h.vals t).mono g

theorem StepF.run {ops : Array Oper} {D : List (Option Tmp)} (hD : ops.toList.map (·.dst) = D) {i : Nat} {o : Oper} (ho : ops[i]? = some o) (hk : gOk D o = true) {f f' : Nat → AV} {v : AV}
    (h : StepF P n H f (lite D o) v) (hf : ∀ t ∈ readsOf D o, f' t = f t) {a : Act} (hs : SRF n w0 O f' H ι a w) {K : Act → World → Prop} {Q : Exit → Act → World → Prop}
    (hK : ∀ a' w', SRF n w0 O (updF f' o.dst v) H ι a' w' → K a' w') : wpOp P ops Q i K a w := by
  have hop : ∀ x, x ∈ o.op.operands ∨ x = .tmp memSlot → evF f' x = evF f x := by
    rintro x (hx | rfl)
    · cases x with
      | tmp t => exact hf t (by unfold readsOf; refine List.mem_append.2 (.inl (List.mem_cons_of_mem _ (List.mem_filterMap.2 ⟨.tmp t, by simpa using hx, rfl⟩))))
      | _ => rfl
    · exact hf memSlot (by unfold readsOf; simp)
  have key : ∀ (ρ : Operand → AV) (v v' : AV), QLt P H ρ o.op o.type v → dstOk n o.dst = true → (∀ x, x ∈ o.op.operands ∨ x = .tmp memSlot → VR w (OO O ι H) ι H (ρ x) (a.eval x)) →
      (∀ w u, VR w (OO O ι H) ι H v u → VR w (OO O ι H) ι H v' u) → (∀ a' w', SRF n w0 O (updF f' o.dst v') H ι a' w' → K a' w') → o.wp P a w K Q := by
    intro ρ v v' hq hd hρ hvv hK
    exact hq o rfl rfl w0 O ι a w hs.sit hρ K Q fun u w' hu hb => hK _ w' (hs.put hb (hvv _ _ hu) hd)
  cases h with
  | q1 v hg hd h =>
    have hg := lite_g_none hg
    simp only [wpOp, ho, Region.wanted, hg, if_true]
    exact .inl (key _ v v h hd (fun x hx => by rw [← hop x hx]; exact hs.ops x) (fun _ _ h => h) hK)
  | gf t want b hg hd hb hw =>
    obtain ⟨j, hg, hj⟩ := lite_g_some hk hg
    have hft : f' t = f t := hf t (by unfold readsOf; rw [hg]; simp [hj])
    have hv := hs.vals t; rw [hft, hb] at hv
    have hv := hv.base_inv
    have hy := yielded_of hD hj (bool_lt hv) hv
    have hwant : Region.wanted o (yielded ops a.tmps) = false := by
      simp only [Region.wanted, hg, hy]
      rw [← gc_eq] at hw
      cases b <;> cases want <;> simp_all
    simp only [wpOp, ho, hwant]
    exact hK _ w (hs.put (Below.refl _ _) (.bad _) hd)
  | gq t want L v hg hd hb h =>
    obtain ⟨j, hg, hj⟩ := lite_g_some hk hg
    have hft : f' t = f t := hf t (by unfold readsOf; rw [hg]; simp [hj])
    have hv := hs.vals t; rw [hft] at hv
    have hwant := gval_wanted hD hj hg hb hv
    cases hc : allL L with
    | true =>
      rw [hc] at hwant
      simp only [wpOp, ho, hwant, if_true]
      exact .inl (key _ v (wrapL L v) (h hc).t hd (fun x hx => by rw [← hop x hx]; exact (hs.ops x).strips hc) (fun _ _ h => h.wraps hc) hK)
    | false =>
      rw [hc] at hwant
      simp only [wpOp, ho, hwant]
      exact hK _ w (hs.put (Below.refl _ _) (.wrapsN hc) hd)

theorem Tr.quietAll : ∀ (l : List LOp) (s s' : ASt), Tr P n true l s s' → s'.H = s.H ∧ ∃ (g : Nat → Nat → AV) (vs : Nat → AV), g 0 = lk s.env ∧ g l.length = lk s'.env ∧
    ∀ i o, l[i]? = some o → StepF P n s.H (g i) o (vs i) ∧ g (i + 1) = updF (g i) o.dst (vs i)
  | [], s, s', h => by
    cases h
    exact ⟨rfl, fun _ => lk s.env, fun _ => .bad, rfl, rfl, fun i o h => by simp at h⟩
  | o :: l, s, s', h => by
    obtain ⟨v, h1, h2⟩ := h.quietStep
    obtain ⟨h3, g, vs, h4, h5, h6⟩ := Tr.quietAll l _ s' h2
    refine ⟨h3, fun i => match i with | 0 => lk s.env | i + 1 => g i, fun i => match i with | 0 => v | i + 1 => vs i, rfl, h5, fun i o' ho' => ?_⟩
    cases i with
    | zero =>
      simp at ho'; subst ho'
      exact ⟨h1, by show g 0 = _; rw [h4, lk_putE]⟩
    | succ i =>
      exact h6 i o' (by simpa using ho')

theorem mem_ready {ops : Array Oper} {L : Array Bool} {i : Nat} : i ∈ Region.ready .any ops L ↔ ∃ o, ops[i]? = some o ∧ L.getD i true = false ∧ ∀ e ∈ o.after, Region.binds .any e = true → L.getD e.on false = true := by
  unfold Region.ready
  simp only [List.mem_filter, List.mem_range, Bool.and_eq_true, Bool.not_eq_true']
  constructor
  · rintro ⟨h1, h2, h3⟩
    rw [Array.getElem?_eq_getElem h1] at h3
    refine ⟨ops[i], Array.getElem?_eq_getElem h1, h2, fun e he hb => ?_⟩
    simp only [Option.map_some, Option.getD_some] at h3
    have := Array.all_eq_true'.1 h3 e he
    simpa [hb] using this
  · rintro ⟨o, h1, h2, h3⟩
    obtain ⟨hi, hio⟩ := Array.getElem?_eq_some_iff.1 h1
    refine ⟨hi, h2, ?_⟩
    rw [h1]
    simp only [Option.map_some, Option.getD_some]
    refine Array.all_eq_true'.2 fun e he => ?_
    cases hb : Region.binds .any e with
    | false => rfl
    | true => simpa using h3 e he hb

theorem hasEdge_listed {o : Oper} {j : Nat} {L : Array Bool} (h : hasEdge o j = true) (hl : ∀ e ∈ o.after, Region.binds .any e = true → L.getD e.on false = true) : L.getD j false = true := by
  unfold hasEdge at h
  obtain ⟨e, he, hx⟩ := Array.any_eq_true'.1 h
  simp only [Bool.and_eq_true, beq_iff_eq] at hx
  have := hl e he hx.2
  rwa [hx.1] at this

def Closed (ops : Array Oper) (L : Array Bool) : Prop := ∀ i o, ops[i]? = some o → L.getD i false = true → ∀ e ∈ o.after, Region.binds .any e = true → L.getD e.on false = true
theorem reach_listed {ops : Array Oper} {L : Array Bool} (hc : Closed ops L) : ∀ (f : Nat) {o : Oper} {j : Nat}, reach ops f o j = true → (∀ e ∈ o.after, Region.binds .any e = true → L.getD e.on false = true) → L.getD j false = true
  | 0, o, j, h, hl => hasEdge_listed h hl
  | f + 1, o, j, h, hl => by
    simp only [reach, Bool.or_eq_true] at h
    rcases h with h | h
    · exact hasEdge_listed h hl
    · obtain ⟨e, he, hx⟩ := Array.any_eq_true'.1 h
      simp only [Bool.and_eq_true] at hx
      obtain ⟨h1, h2⟩ := hx
      cases ho : ops[e.on]? with
      | none => rw [ho] at h2; cases h2
      | some o' =>
        rw [ho] at h2
        exact reach_listed hc f h2 (hc e.on o' ho (hl e he h1))
theorem Closed.set {ops : Array Oper} {L : Array Bool} {i : Nat} {o : Oper} (hc : Closed ops L) (ho : ops[i]? = some o) (hi : i < L.size) (h : ∀ e ∈ o.after, Region.binds .any e = true → L.getD e.on false = true) : Closed ops (L.setIfInBounds i true) := by
  have hset : ∀ j, (L.setIfInBounds i true).getD j false = if i = j then true else L.getD j false := fun j => by
    simp only [Array.getD_eq_getD_getElem?, Array.getElem?_setIfInBounds]
    by_cases e : i = j
    · subst e; simp [hi]
    · simp [e]
  intro j o' ho' hj e he hb
  rw [hset] at hj ⊢
  by_cases e1 : i = e.on
  · rw [if_pos e1]
  · rw [if_neg e1]
    by_cases e2 : i = j
    · subst e2; rw [ho] at ho'; injection ho' with ho'; subst ho'; exact h e he hb
    · rw [if_neg e2] at hj; exact hc j o' ho' hj e he hb

structure DrawFacts (D : List (Option Tmp)) (ops : Array Oper) (k : Nat) : Prop where
  down : ∀ i o, ops[i]? = some o → ∀ e ∈ o.after, Region.binds .any e = true → e.on < i
  one : ∀ i j d, i < k → j < k → i ≠ j → D[i]? = some (some d) → D[j]? ≠ some (some d)
  reads : ∀ i o, ops[i]? = some o → i < k → ∀ t ∈ readsOf D o, ∀ j, j < k → D[j]? = some (some t) → j < i ∧ hasEdge o j = true
  tail : ∀ i o, ops[i]? = some o → k ≤ i → ∀ j, j < i → reach ops 8 o j = true

theorem mem_zipIdx_of {α : Type} {l : List α} {i : Nat} {x : α} (h : l[i]? = some x) : (x, i) ∈ l.zipIdx := by
  rw [List.mem_zipIdx_iff_getElem?]; exact h

theorem drawOk_facts {D : List (Option Tmp)} {ops : Array Oper} {k : Nat} (h : drawOk D ops k = true) : DrawFacts D ops k := by
  unfold drawOk at h
  simp only [Bool.and_eq_true] at h
  obtain ⟨⟨h1, h2⟩, h3⟩ := h
  have hm : ∀ i (o : Oper), ops[i]? = some o → (o, i) ∈ ops.toList.zipIdx := fun i o ho => mem_zipIdx_of (by rwa [Array.getElem?_toList])
  have hq : ∀ j d, j < k → D[j]? = some d → (d, j) ∈ (D.take k).zipIdx := fun j d hj hd => mem_zipIdx_of (by rw [List.getElem?_take, if_pos hj]; exact hd)
  refine ⟨fun i o ho e he hb => ?_, fun i j d hi hj hne hdi hdj => ?_, fun i o ho hi t ht j hj hd => ?_, fun i o ho hi j hj => ?_⟩
  · have := Array.all_eq_true'.1 (List.all_eq_true.1 h1 _ (hm i o ho)) e he
    simpa [hb] using this
  · have := List.all_eq_true.1 (List.all_eq_true.1 h2 _ (hq i _ hi hdi)) _ (hq j _ hj hdj)
    simp at this
    exact hne this
  · have := List.all_eq_true.1 h3 _ (hm i o ho)
    simp only [hi, if_true] at this
    have := List.all_eq_true.1 (List.all_eq_true.1 this t ht) _ (hq j _ hj hd)
    simpa using this
  · have := List.all_eq_true.1 h3 _ (hm i o ho)
    simp only [Nat.not_lt.2 hi, if_false] at this
    exact List.all_eq_true.1 this j (by simpa using hj)

theorem wpAny_tail {ops : Array Oper} {D : List (Option Tmp)} {k : Nat} (hD : ops.toList.map (·.dst) = D) (hgk : ops.toList.all (gOk D) = true) (hf : DrawFacts D ops k) {q : Bool} {s' : ASt} {O : Nat → Prop} :
    ∀ (fuel m : Nat) (s : ASt) (L : Array Bool) (ι : Nat → Option Nat) (a : Act) (w : World), k ≤ m → m ≤ ops.size → ops.size ≤ m + fuel → L.size = ops.size → (∀ j, j < ops.size → L.getD j false = decide (j < m)) →
      Tr P n q ((ops.toList.drop m).map (lite D)) s s' → SR n w0 O s ι a w → wpAny P .any ops (normQ w0 O n s') fuel L a w := by
  intro fuel
  have hstep : ∀ (m : Nat) (L : Array Bool), k ≤ m → m ≤ ops.size → L.size = ops.size → (∀ j, j < ops.size → L.getD j false = decide (j < m)) → ∀ i, i ∈ Region.ready .any ops L ↔ (i = m ∧ m < ops.size) := by
    intro m L hkm hms hsz hL i
    rw [mem_ready]
    constructor
    · rintro ⟨o, ho, h1, h2⟩
      have hi := (Array.getElem?_eq_some_iff.1 ho).1
      have h3 : L.getD i false = false := by
        have : L.getD i true = L.getD i false := by simp [Array.getD_eq_getD_getElem?, Array.getElem?_eq_getElem (show i < L.size by omega)]
        rw [← this]; exact h1
      rw [hL i hi] at h3
      have hmi : m ≤ i := by simpa using h3
      rcases Nat.lt_or_ge m i with hlt | hge
      · have hcl : Closed ops L := fun j o' ho' hj e he hb => by
          have hjs := (Array.getElem?_eq_some_iff.1 ho').1
          have h4 := hf.down j o' ho' e he hb
          rw [hL j hjs] at hj
          rw [hL e.on (by omega)]
          simp at hj ⊢; omega
        have := reach_listed hcl 8 (hf.tail i o ho (by omega) m hlt) h2
        rw [hL m (by omega)] at this
        simp at this
      · exact ⟨by omega, by omega⟩
    · rintro ⟨rfl, hi⟩
      refine ⟨ops[i], Array.getElem?_eq_getElem hi, ?_, fun e he hb => ?_⟩
      · have h3 := hL i hi
        simp [Array.getD_eq_getD_getElem?, Array.getElem?_eq_getElem (show i < L.size by omega)] at h3 ⊢
        exact h3
      · have := hf.down i _ (Array.getElem?_eq_getElem hi) e he hb
        rw [hL e.on (by omega)]
        simpa using this
  induction fuel with
  | zero =>
    intro m s L ι a w hkm hms hfu hsz hL ht hs
    have hm : m = ops.size := by omega
    subst hm
    refine ⟨List.eq_nil_iff_forall_not_mem.2 fun i hi => ?_, ?_⟩
    · have := (hstep _ L hkm hms hsz hL i).1 hi; omega
    · rw [show ops.toList.drop ops.size = [] by simp] at ht
      cases ht
      exact ⟨rfl, ι, hs⟩
  | succ fuel ih =>
    intro m s L ι a w hkm hms hfu hsz hL ht hs
    refine ⟨fun hnil => ?_, fun i hi => ?_⟩
    · have hm : m = ops.size := by
        rcases Nat.lt_or_ge m ops.size with h | h
        · have := (hstep m L hkm hms hsz hL m).2 ⟨rfl, h⟩
          rw [hnil] at this; cases this
        · omega
      subst hm
      rw [show ops.toList.drop ops.size = [] by simp] at ht
      cases ht
      exact ⟨rfl, ι, hs⟩
    · obtain ⟨rfl, hi⟩ := (hstep m L hkm hms hsz hL i).1 hi
      have hio : i < ops.toList.length := by simpa using hi
      rw [List.drop_eq_getElem_cons hio] at ht
      have ho : ops[i]? = some ops.toList[i] := by rw [Array.getElem?_eq_getElem hi]; simp
      obtain ⟨s1, h1, h2⟩ := Tr_one hD ho (List.all_eq_true.1 hgk _ (List.getElem_mem hio)) ht
      refine h2 w0 O ι a w hs _ _ fun ι' a' w' hs' => ?_
      refine ih (i + 1) s1 _ ι' a' w' (by omega) (by omega) (by omega) (by simp [hsz]) (fun j hj => ?_) h1 hs'
      simp only [Array.getD_eq_getD_getElem?, Array.getElem?_setIfInBounds]
      have h3 := hL j hj
      simp only [Array.getD_eq_getD_getElem?] at h3
      by_cases e : i = j
      · subst e; simp [show i < L.size by omega]
      · simp only [e, if_false, h3]
        simp; omega

def mix (D : List (Option Tmp)) (k : Nat) (g0 gk : Nat → AV) (L : Array Bool) (t : Nat) : AV :=
  if (List.range k).any (fun j => L.getD j false && D[j]? == some (some t)) then gk t else g0 t

theorem mix_in {D : List (Option Tmp)} {k : Nat} {g0 gk : Nat → AV} {L : Array Bool} {t j : Nat} (hj : j < k) (hl : L.getD j false = true) (hd : D[j]? = some (some t)) : mix D k g0 gk L t = gk t := by
  unfold mix
  rw [if_pos]
  exact List.any_eq_true.2 ⟨j, by simpa using hj, by simp [hd, hl]⟩
theorem mix_out {D : List (Option Tmp)} {k : Nat} {g0 gk : Nat → AV} {L : Array Bool} {t : Nat} (h : ∀ j, j < k → L.getD j false = true → D[j]? ≠ some (some t)) : mix D k g0 gk L t = g0 t := by
  unfold mix
  rw [if_neg]
  intro hh
  obtain ⟨j, hj, hx⟩ := List.any_eq_true.1 hh
  simp only [Bool.and_eq_true, beq_iff_eq] at hx
  exact h j (by simpa using hj) hx.1 hx.2

theorem wpAny_quiet {ops : Array Oper} {D : List (Option Tmp)} {k : Nat} (hD : ops.toList.map (·.dst) = D) (hgk : ops.toList.all (gOk D) = true) (hf : DrawFacts D ops k) (hk : k ≤ ops.size) {q : Bool} {s1 s' : ASt} {O : Nat → Prop}
    {g : Nat → Nat → AV} {vs : Nat → AV} (hgk' : g k = lk s1.env) (hst : ∀ i o, ops[i]? = some o → i < k → StepF P n s1.H (g i) (lite D o) (vs i) ∧ g (i + 1) = updF (g i) o.dst (vs i))
    (ht : Tr P n q ((ops.toList.drop k).map (lite D)) s1 s') (ι : Nat → Option Nat) :
    ∀ (fuel : Nat) (L : Array Bool) (U : List Nat) (a : Act) (w : World), L.size = ops.size → (∀ j, j < k → (L.getD j false = false ↔ j ∈ U)) → U.length + (ops.size - k) ≤ fuel → (∀ j, k ≤ j → L.getD j false = false) → Closed ops L → SRF n w0 O (mix D k (g 0) (g k) L) s1.H ι a w →
      wpAny P .any ops (normQ w0 O n s') fuel L a w := by
  have hDi : ∀ (i : Nat) (o : Oper), ops[i]? = some o → D[i]? = some o.dst := fun i o ho => by subst hD; rw [List.getElem?_map, Array.getElem?_toList, ho]; rfl
  -- what the slots hold from step to step
  have hkeep : ∀ t i j, i ≤ j → j ≤ k → (∀ m, i ≤ m → m < j → D[m]? ≠ some (some t)) → g j t = g i t := by
    intro t i j hij
    obtain ⟨d, rfl⟩ := Nat.exists_eq_add_of_le hij
    clear hij
    induction d with
    | zero => intro _ _; rfl
    | succ d ih =>
      intro hjk hno
      generalize hjd : i + d = j at ih
      have hij : i ≤ j := by omega
      rw [show i + (d + 1) = j + 1 by omega] at hjk hno ⊢
      have ho : ops[j]? = some ops[j] := Array.getElem?_eq_getElem (by omega)
      rw [(hst j _ ho (by omega)).2]
      unfold updF
      rw [if_neg (fun e => hno j hij (by omega) (by rw [hDi j _ ho, e]))]
      exact ih (by omega) fun m hm hmj => hno m hm (by omega)
  have hwr : ∀ j o d, ops[j]? = some o → j < k → o.dst = some d → g k d = vs j ∧ ∀ i, j < i → i ≤ k → g i d = vs j := by
    intro j o d ho hj hd
    have h1 : g (j + 1) d = vs j := by rw [(hst j o ho hj).2]; simp [updF, hd]
    have h2 : ∀ i, j < i → i ≤ k → g i d = vs j := fun i hi hik => by
      rw [hkeep d (j + 1) i hi hik fun m hm hmi e => hf.one j m d hj (by omega) (by omega) (by rw [hDi j o ho, hd]) e]
      exact h1
    exact ⟨h2 k hj (Nat.le_refl _), h2⟩
  intro fuel
  have hend : ∀ (L : Array Bool) (a : Act) (w : World), L.size = ops.size → (∀ j, k ≤ j → L.getD j false = false) → SRF n w0 O (mix D k (g 0) (g k) L) s1.H ι a w → (∀ j, j < k → L.getD j false = true) → SR n w0 O s1 ι a w := by
    intro L a w hsz hL hs hall
    refine ⟨hs.sit, hs.defers, hs.size, hs.hand, fun t => ?_⟩
    have h1 := hs.vals t
    have h2 : mix D k (g 0) (g k) L t = lk s1.env t := by
      rw [← hgk']
      by_cases hex : ∃ j, j < k ∧ D[j]? = some (some t)
      · obtain ⟨j, hj, hd⟩ := hex
        exact mix_in hj (hall j hj) hd
      · rw [mix_out (fun j hj _ hd => hex ⟨j, hj, hd⟩)]
        exact (hkeep t 0 k (Nat.zero_le _) (Nat.le_refl _) fun m _ hm hd => hex ⟨m, hm, hd⟩).symm
    rwa [h2] at h1
  have htail : ∀ (L : Array Bool) (a : Act) (w : World) (fuel : Nat), L.size = ops.size → (∀ j, k ≤ j → L.getD j false = false) → SRF n w0 O (mix D k (g 0) (g k) L) s1.H ι a w → (∀ j, j < k → L.getD j false = true) → ops.size ≤ k + fuel →
      wpAny P .any ops (normQ w0 O n s') fuel L a w := by
    intro L a w fuel hsz hL hs hall hfu
    refine wpAny_tail hD hgk hf fuel k s1 L ι a w (Nat.le_refl _) hk hfu hsz (fun j hj => ?_) ht (hend L a w hsz hL hs hall)
    rcases Nat.lt_or_ge j k with h | h
    · rw [hall j h]; simp [h]
    · rw [hL j h]; simp; omega
  induction fuel with
  | zero =>
    intro L U a w hsz hU hc hL hcl hs
    have hnil : U = [] := List.eq_nil_of_length_eq_zero (by omega)
    subst hnil
    exact htail L a w 0 hsz hL hs (fun j hj => by
      cases h : L.getD j false with
      | true => rfl
      | false => exact absurd ((hU j hj).1 h) (by simp)) (by omega)
  | succ fuel ih =>
    intro L U a w hsz hU hc hL hcl hs
    by_cases hall : ∀ j, j < k → L.getD j false = true
    · exact htail L a w _ hsz hL hs hall (by omega)
    · have hget : ∀ i, i < ops.size → L.getD i true = L.getD i false := fun i hi => by simp [Array.getD_eq_getD_getElem?, Array.getElem?_eq_getElem (show i < L.size by omega)]
      refine ⟨fun hnil => ?_, fun i hi => ?_⟩
      · exfalso
        -- the least operation that has not run is ready
        have hex : ∃ j, j < k ∧ L.getD j false = false := by
          rcases Classical.em (∃ j, j < k ∧ L.getD j false = false) with h | h
          · exact h
          · exact absurd (fun j hj => by
              cases h' : L.getD j false with
              | true => rfl
              | false => exact absurd ⟨j, hj, h'⟩ h) hall
        obtain ⟨j, hj, hjf⟩ := hex
        have hmin : ∀ m, (∃ j, j < m ∧ j < k ∧ L.getD j false = false) → ∃ j, j < k ∧ L.getD j false = false ∧ ∀ i, i < j → L.getD i false = true := by
          intro m
          induction m with
          | zero => rintro ⟨j, h, _⟩; omega
          | succ m ihm =>
            rintro ⟨j, h1, h2, h3⟩
            by_cases h : ∃ j, j < m ∧ j < k ∧ L.getD j false = false
            · exact ihm h
            · refine ⟨j, h2, h3, fun i hi => ?_⟩
              cases h' : L.getD i false with
              | true => rfl
              | false => exact absurd ⟨i, by omega, by omega, h'⟩ h
        obtain ⟨j, hj, hjf, hlo⟩ := hmin (j + 1) ⟨j, by omega, hj, hjf⟩
        have : j ∈ Region.ready .any ops L := mem_ready.2 ⟨ops[j], Array.getElem?_eq_getElem (by omega), by rw [hget j (by omega)]; exact hjf, fun e he hb => hlo _ (hf.down j _ (Array.getElem?_eq_getElem (by omega)) e he hb)⟩
        rw [hnil] at this
        cases this
      · obtain ⟨o, ho, h1, h2⟩ := mem_ready.1 hi
        have his : i < ops.size := (Array.getElem?_eq_some_iff.1 ho).1
        rw [hget i his] at h1
        have hik : i < k := by
          rcases Nat.lt_or_ge i k with h | h
          · exact h
          · exact absurd (fun j hj => reach_listed hcl 8 (hf.tail i o ho h j (by omega)) h2) hall
        obtain ⟨h3, h4⟩ := hst i o ho hik
        refine h3.run hD ho (List.all_eq_true.1 hgk o (by rw [← Array.getElem?_toList] at ho; exact List.mem_of_getElem? ho)) (fun t htr => ?_) hs fun a' w' hs' => ?_
        · by_cases hex : ∃ j, j < k ∧ D[j]? = some (some t)
          · obtain ⟨j, hj, hd⟩ := hex
            obtain ⟨h5, h6⟩ := hf.reads i o ho hik t htr j hj hd
            have hoj : ops[j]? = some ops[j] := Array.getElem?_eq_getElem (by omega)
            have hdj : ops[j].dst = some t := by have := hDi j _ hoj; rw [hd] at this; injection this with this; exact this.symm
            rw [mix_in hj (hasEdge_listed h6 h2) hd, (hwr j _ t hoj hj hdj).1, (hwr j _ t hoj hj hdj).2 i h5 (by omega)]
          · rw [mix_out (fun j hj _ hd => hex ⟨j, hj, hd⟩)]
            exact (hkeep t 0 i (Nat.zero_le _) (by omega) fun m _ hm hd => hex ⟨m, by omega, hd⟩).symm
        · have hiU : i ∈ U := (hU i hik).1 h1
          refine ih (L.setIfInBounds i true) (U.filter (· != i)) a' w' (by simp [hsz]) (fun j hj => ?_) ?_ (fun j hj => ?_) (hcl.set ho (by omega) h2) ?_
          · simp only [Array.getD_eq_getD_getElem?, Array.getElem?_setIfInBounds, List.mem_filter]
            by_cases e : i = j
            · subst e; simp [show i < L.size by omega]
            · have := hU j hj
              simp only [Array.getD_eq_getD_getElem?] at this
              simp only [e, if_false, this, bne_iff_ne, ne_eq]
              exact ⟨fun h => ⟨h, fun h' => e h'.symm⟩, fun h => h.1⟩
          · have : (U.filter (· != i)).length < U.length := by
              have h7 := List.length_filter_lt_length_iff_exists (l := U) (p := (· != i))
              exact h7.2 ⟨i, hiU, by simp⟩
            omega
          · simp only [Array.getD_eq_getD_getElem?, Array.getElem?_setIfInBounds]
            have := hL j hj
            simp only [Array.getD_eq_getD_getElem?] at this
            rw [if_neg (by omega)]; exact this
          · have hmx : mix D k (g 0) (g k) (L.setIfInBounds i true) = updF (mix D k (g 0) (g k) L) o.dst (vs i) := by
              funext t
              unfold updF
              by_cases e : o.dst = some t
              · rw [if_pos e, mix_in hik (by simp [Array.getD_eq_getD_getElem?, show i < L.size by omega]) (by rw [hDi i o ho, e]), (hwr i o t ho hik e).1]
              · rw [if_neg e]
                have hsame : ∀ j, D[j]? = some (some t) → (L.setIfInBounds i true).getD j false = L.getD j false := by
                  intro j hd
                  have hne : i ≠ j := fun e' => by subst e'; rw [hDi i o ho] at hd; injection hd with hd; exact e hd
                  simp only [Array.getD_eq_getD_getElem?, Array.getElem?_setIfInBounds, hne, if_false]
                by_cases hex : ∃ j, j < k ∧ L.getD j false = true ∧ D[j]? = some (some t)
                · obtain ⟨j, hj, hl, hd⟩ := hex
                  rw [mix_in hj hl hd, mix_in hj (by rw [hsame j hd]; exact hl) hd]
                · rw [mix_out (fun j hj hl hd => hex ⟨j, hj, hl, hd⟩), mix_out (fun j hj hl hd => hex ⟨j, hj, by rw [← hsame j hd]; exact hl, hd⟩)]
            rw [hmx]; exact hs'

theorem Tr_draw {ops : Array Oper} {D : List (Option Tmp)} {k : Nat} (hD : ops.toList.map (·.dst) = D) (hgk : ops.toList.all (gOk D) = true) (hf : drawOk D ops k = true) (hk : k ≤ ops.size) (hm : P.follows .mixedOrders = true)
    {q : Bool} {s s1 s' : ASt} {O : Nat → Prop} (h1 : Tr P n true ((ops.toList.take k).map (lite D)) s s1) (h2 : Tr P n q ((ops.toList.drop k).map (lite D)) s1 s') (id : Nat) {a : Act} (hs : SR n w0 O s ι a w) :
    (Code.region id ops true).wp P (normQ w0 O n s') a w := by
  refine wp_region_any hm ?_
  obtain ⟨hH, g, vs, hg0, hgk', hst⟩ := h1.quietAll
  have hlen : ((ops.toList.take k).map (lite D)).length = k := by simp; omega
  rw [hlen] at hgk'
  have hb : Below w.heap.size w { w with drawn := w.drawn + 1 } := (Below.refl _ _).drew
  refine wpAny_quiet hD hgk (drawOk_facts hf) hk (g := g) (vs := vs) hgk' (fun i o ho hi => ?_) h2 ι ops.size _ (List.range k) a _ (by simp) (fun j hj => ?_) (by simp; omega) (fun j hj => ?_) (fun j o' _ hj => by simp only [Array.getD_eq_getD_getElem?, Array.getElem?_replicate] at hj; split at hj <;> cases hj) ?_
  · rw [hH]
    exact hst i (lite D o) (by rw [List.getElem?_map, List.getElem?_take, if_pos hi, Array.getElem?_toList, ho]; rfl)
  · simp [Array.getD_eq_getD_getElem?, hj, Array.getElem?_replicate]; split <;> rfl
  · simp only [Array.getD_eq_getD_getElem?, Array.getElem?_replicate]; split <;> rfl
  · rw [hH]
    refine ⟨hs.sit.quiet hb, hs.defers, hs.size, hs.hand, fun t => ?_⟩
    have : mix D k (g 0) (g k) (Array.replicate ops.size false) t = lk s.env t := by
      rw [mix_out, hg0]
      intro j hj hl
      simp only [Array.getD_eq_getD_getElem?, Array.getElem?_replicate] at hl
      split at hl <;> cases hl
    rw [this]
    exact (hs.vals t).mono (Goes.quiet hs.sit hb)
end
end Go.Ab
