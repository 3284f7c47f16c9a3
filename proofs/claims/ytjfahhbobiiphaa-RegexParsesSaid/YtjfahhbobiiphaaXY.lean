/- The library's text of strings.Join, laid at this program. -/
import Derived.Shelf.Strings.OnBuilder
import Derived.Test.YtjfahhbobiiphaaXYa
import Derived.Test.YtjfahhbobiiphaaXK
import Derived.Test.YtjfahhbobiiphaaAbM
import Derived.Test.YtjfahhbobiiphaaXA
import Derived.Test.YtjfahhbobiiphaaAbK
import Derived.Test.YtjfahhbobiiphaaXW
import Derived.Test.YtjfahhbobiiphaaXN
set_option linter.unusedSimpArgs false
set_option linter.unusedVariables false
-- fnh
set_option maxHeartbeats 4000000
namespace Go.Ab
open Go Go.Ab Go.Proofs Go.Ab.Ty

/-! ### texts of sets -/
abbrev bsL (l : List UInt8) : ByteArray := ⟨l.toArray⟩
theorem bsL_data (s : ByteArray) : bsL s.data.toList = s := rfl
theorem bsL_toList (l : List UInt8) : (bsL l).data.toList = l := rfl
theorem bsL_size (l : List UInt8) : (bsL l).size = l.length := by simp [ByteArray.size]
theorem bsL_app (a b : List UInt8) : bsL a ++ bsL b = bsL (a ++ b) := by simp [ByteArray.ext_iff]
theorem isIn_mem (s : ByteArray) (c : UInt8) : isIn s c ↔ c ∈ s.data.toList := by
  unfold isIn
  constructor
  · rintro ⟨i, h, rfl⟩
    rw [List.mem_iff_getElem]
    exact ⟨i, by simpa using h, by simp; rfl⟩
  · intro h
    obtain ⟨i, hi, rfl⟩ := List.mem_iff_getElem.1 h
    exact ⟨i, by simpa using hi, by simp; rfl⟩
def escB (sp : List UInt8) : List UInt8 → List UInt8
  | [] => []
  | c :: l => (if c ∈ sp then [92, c] else [c]) ++ escB sp l
theorem escB_app (sp a b : List UInt8) : escB sp (a ++ b) = escB sp a ++ escB sp b := by
  induction a with
  | nil => rfl
  | cons c a ih => simp only [List.cons_append, escB, ih, List.append_assoc]
theorem escB_len (sp l : List UInt8) : (escB sp l).length ≤ 2 * l.length := by
  induction l with
  | nil => simp [escB]
  | cons c l ih => rw [escB, List.length_append, List.length_cons]; split <;> simp only [List.length_cons, List.length_nil] <;> omega
theorem escB_take {sp l : List UInt8} {k : Nat} (h : k < l.length) : escB sp (l.take (k + 1)) = escB sp (l.take k) ++ (if l[k] ∈ sp then [92, l[k]] else [l[k]]) := by
  rw [List.take_succ_eq_append_getElem h, escB_app]
  simp [escB]
theorem writeByte_ok (u : Bool) (l : List UInt8) (c : UInt8) (hb : l.length + 1 ≤ 140737488355328) : FnH Try.prog 128 [.ptr 0 1 0 0, chr c] [bS u l.length, bB l] (.base .nilIface) [bS true (l ++ [c]).length, bB (l ++ [c])] := by
  have i1 := copyCheck_ok u l
  refine FnH.intro' [(0, .ptr 0 1 0 0), (1, chr c)] 2 17 2 Try.func128 (by kernel_rfl) rfl rfl rfl rfl rfl rfl ?_
  refine goD ?_
  refine ARun.p1 rfl rfl (pl_callBld i1 rfl rfl (by decide) (PuB_bld _ _) (PuB_bld _ _) rfl rfl rfl rfl rfl (by simp) (.tup (by simp))) ?_
  refine goD ?_
  refine ARun.p1 rfl rfl (pl_append (b := 1) (tot := l.length) (es := [chr c]) (by simp +decide only [go_sem] <;> rfl) (by simp +decide only [go_sem] <;> rfl) rfl (by simp [bldB]) Try.underlying32 el5 rfl rfl (by simp) (fun e he => by rw [List.mem_singleton] at he; subst he; exact ⟨rfl, rfl⟩) (by simpa using hb) (by simpa using hb)) ?_
  simp only [List.set_cons_succ, List.set_cons_zero]
  refine goD ?_
  exact RetH.same rfl rfl (by simp only [bS, bB, bldS, bldB, pA, List.length_append, if_true, List.map_append]; rfl)
theorem escaped_ok (s sp : ByteArray) (hs : s.size ≤ 100000) : Fn Try.prog 101 [str s, str sp] (str (bsL (escB sp.data.toList s.data.toList))) := by
  have hel := escB_len sp.data.toList s.data.toList
  have hsl : s.data.toList.length = s.size := by rw [Array.length_toList]; rfl
  refine Fn.intro' [(0, str s), (1, str sp)] 2 25 Try.func101 (by kernel_rfl) rfl rfl rfl rfl rfl ?_
  refine goD ?_
  refine keA [0, 1, 5, 7, 8, 9] ?_
  refine AWp.weaken (Wk.bld (H1 := []) 82 5 (fun _ h => by cases h) (E2 := [(0, str s), (1, str sp), (5, .ptr 0 1 0 0), (8, .int s.size), (9, .int 0)]) ?_) ?_
  · simp +decide only [NilE, lk, if_true, if_false]
    exact ⟨.pu (.base _), .pu (.base _), .ptr, .pu (.base _), .pu (.base _), trivial⟩
  refine AWp.loopH (J := fun k : Nat => k ≤ s.size) (fun k => [(9, .int k)]) (fun k => [bldS 82 (pA (decide (0 < k)) 0) 1 (escB sp.data.toList (s.data.toList.take k)).length, bldB 5 (escB sp.data.toList (s.data.toList.take k))]) (fun k => s.size - k) 0 (Nat.zero_le _) (.env2 (by rfl) (by simp +decide only [go_sem])) ?_
  intro k hk
  have hlk := escB_len sp.data.toList (s.data.toList.take k)
  have hlt : (s.data.toList.take k).length = k := by simp; omega
  refine goD ?_
  refine ifA (fun hd => ?_) (fun hd => ?_)
  · simp at hd
    have hT := escB_take (sp := sp.data.toList) (l := s.data.toList) (k := k) (by omega)
    have hget : s.data.toList[k]'(by omega) = s[k] := by simp; rfl
    rw [hget] at hT
    have i1 := indexByte_ok sp s[k]
    have hix := ixB_ge sp s[k]
    rw [isIn_mem] at hix
    generalize escB sp.data.toList (s.data.toList.take k) = A at *
    refine goC ?_
    refine ARun.q1 rfl rfl (ql_index_str rfl rfl Try.underlying9 (by omega) (bs_get (i := k) (by omega))) ?_
    refine goC ?_
    refine callA (i1) ?_
    refine goC ?_
    have hw := fun (u : Bool) (B : List UInt8) (c : UInt8) (h : B.length + 1 ≤ 140737488355328) => writeByte_ok u B c h
    have hbyte : ∀ A : List UInt8, PuBl [bldS 82 (pA true 0) 1 A.length, bldB 5 A] → True := fun _ _ => trivial
    refine ifA (fun hc => ?_) (fun hc => ?_)
    · have hc2 := hix.1 (of_decide_eq_true hc)
      rw [if_pos hc2] at hT
      refine goD ?_
      refine ARun.p1 rfl rfl (pl_callBld (hw (decide (0 < k)) A 92 (by omega)) rfl rfl (by decide) (PuB_bld _ _) (PuB_bld _ _) rfl rfl rfl rfl rfl (by simp) (.base _)) ?_
      refine goC ?_
      refine ARun.q1 rfl rfl (ql_index_str rfl rfl Try.underlying9 (by omega) (bs_get (i := k) (by omega))) ?_
      refine goC ?_
      refine ARun.p1 rfl rfl (pl_callBld (hw true (A ++ [92]) s[k] (by simp; omega)) rfl rfl (by decide) (PuB_bld _ _) (PuB_bld _ _) rfl rfl rfl rfl rfl (by simp) (.base _)) ?_
      rw [List.append_assoc, show [92] ++ [s[k]] = [92, s[k]] from rfl, ← hT]
      refine goC ?_
      rw [wrap_succ (by omega)]
      exact ⟨k + 1, by omega, by omega, .env2 (by rfl) (by simp +decide only [go_sem])⟩
    · have hc2 : s[k] ∉ sp.data.toList := fun h => (of_decide_eq_false hc) (hix.2 h)
      rw [if_neg hc2] at hT
      refine goC ?_
      refine ARun.q1 rfl rfl (ql_index_str rfl rfl Try.underlying9 (by omega) (bs_get (i := k) (by omega))) ?_
      refine goC ?_
      refine ARun.p1 rfl rfl (pl_callBld (hw (decide (0 < k)) A s[k] (by omega)) rfl rfl (by decide) (PuB_bld _ _) (PuB_bld _ _) rfl rfl rfl rfl rfl (by simp) (.base _)) ?_
      rw [← hT]
      refine goC ?_
      rw [wrap_succ (by omega)]
      exact ⟨k + 1, by omega, by omega, .env2 (by rfl) (by simp +decide only [go_sem])⟩
  simp at hd
  obtain rfl : k = s.size := by omega
  rw [show s.data.toList.take s.size = s.data.toList by rw [← hsl, List.take_length]]
  generalize escB sp.data.toList s.data.toList = A at *
  refine goD ?_
  refine ARun.p1 rfl rfl (pl_callBld (bstr_ok (decide (0 < s.size)) A (by unfold maxLen; omega)) rfl rfl (by decide) (PuB_bld _ _) (by split; exact PuB_bld _ _; exact PuB_frz _) rfl rfl rfl rfl rfl (by simp) (.base _)) ?_
  refine goD ?_
  exact Ret.data rfl rfl (.base _)
end Go.Ab
namespace Go.Ab
open Go Go.Proofs Go.Shelf Go.RowKit
def renJ : Go.Shelf.Ren := ⟨fun | 156 => 102 | 165 => 129 | 166 => 70 | 169 => 72 | 240 => 96 | 241 => 147 | 276 => 123 | 277 => 156 | n => n, fun | 31 => 50 | 37 => 32 | 70 => 80 | 72 => 82 | 75 => 84 | 76 => 85 | 80 => 88 | 127 => 126 | 164 => 148 | n => n, fun | 3 => 0 | 4 => 1 | n => n⟩
theorem laysJ : Lays.n156 Try.prog renJ := {
  mixed := by kernel_rfl
  f156 := Try.func102.trans (by kernel_rfl)
  f165 := Try.func129.trans (by kernel_rfl)
  f166 := Try.func70.trans (by kernel_rfl)
  f169 := Try.func72.trans (by kernel_rfl)
  f240 := Try.func96.trans (by kernel_rfl)
  f241 := Try.func147.trans (by kernel_rfl)
  f276 := Try.func123.trans (by kernel_rfl)
  f277 := Try.func156.trans (by kernel_rfl)
  t0 := Try.underlying0
  a0 := Try.isAgg0
  z0 := Try.sizeOf0
  v0 := Try.zeroValue0
  t3 := Try.underlying3
  a3 := Try.isAgg3
  z3 := Try.sizeOf3
  v3 := Try.zeroValue3
  t4 := Try.underlying4
  a4 := Try.isAgg4
  z4 := Try.sizeOf4
  v4 := Try.zeroValue4
  t9 := Try.underlying9
  a9 := Try.isAgg9
  z9 := Try.sizeOf9
  v9 := Try.zeroValue9
  t20 := Try.underlying20
  a20 := Try.isAgg20
  z20 := Try.sizeOf20
  v20 := Try.zeroValue20
  t31 := Try.underlying50
  a31 := Try.isAgg50
  z31 := Try.sizeOf50
  v31 := Try.zeroValue50
  t37 := Try.underlying32
  a37 := Try.isAgg32
  z37 := Try.sizeOf32
  v37 := Try.zeroValue32
  t70 := Try.underlying80
  a70 := Try.isAgg80
  z70 := Try.sizeOf80
  v70 := Try.zeroValue80
  t72 := Try.underlying82
  a72 := Try.isAgg82
  z72 := Try.sizeOf82
  v72 := Try.zeroValue82
  t75 := Try.underlying84
  a75 := Try.isAgg84
  z75 := Try.sizeOf84
  v75 := Try.zeroValue84
  t76 := Try.underlying85
  a76 := Try.isAgg85
  z76 := Try.sizeOf85
  v76 := Try.zeroValue85
  t127 := Try.underlying126
  a127 := Try.isAgg126
  z127 := Try.sizeOf126
  v127 := Try.zeroValue126
  t164 := Try.underlying148
  a164 := Try.isAgg148
  z164 := Try.sizeOf148
  v164 := Try.zeroValue148 }
theorem extraJ : Builder.Extra Try.prog renJ := {
  sizeBuilder := by kernel_rfl
  liesBuilder := by kernel_rfl
  t5 := Try.underlying5
  a5 := Try.isAgg5
  z5 := Try.sizeOf5
  v5 := Try.zeroValue5
  infoByte := by kernel_rfl
  cellsByte := by kernel_rfl
  sizeByte := by kernel_rfl
  neB5 := by decide }
end Go.Ab
namespace Go.Ab
open Go Go.Proofs Go.Shelf Go.RowKit
theorem two_valsJ {vs : Array Value} {a b : Value} (h : vs.size = 2) (h0 : vs[0]? = some a) (h1 : vs[1]? = some b) : vs = #[a, b] := by
  apply Array.ext (by simp [h])
  intro i hi1 hi2
  rcases i with _ | _ | i
  · rw [Array.getElem?_eq_getElem hi1] at h0; injection h0
  · rw [Array.getElem?_eq_getElem hi1] at h1; injection h1
  · simp at hi2; omega
theorem joinS_ok (l : List ByteArray) (sep : ByteArray) (hl : l.length ≤ 1000000) (hlen : (Lib.join (l.map (·.data.toList)) sep.data.toList).length ≤ 140737488355328) :
    Fn Try.prog 102 [.lst (l.map fun s => .base (.string s)), .base (.string sep)] (.base (.string ⟨(Lib.join (l.map (·.data.toList)) sep.data.toList).toArray⟩)) := by
  refine ⟨⟨Try.f102, by kernel_rfl, by kernel_rfl, by kernel_rfl⟩, fun w O vs _ hO hsz hv => ?_⟩
  have hs2 : vs.size = 2 := hsz
  have g0 : vs[0]? = some vs[0] := Array.getElem?_eq_getElem (by omega)
  have g1 : vs[1]? = some vs[1] := Array.getElem?_eq_getElem (by omega)
  have h1 := (hv 1 _ _ rfl g1).base_inv
  have h0 := hv 0 _ _ rfl g0
  rw [h1] at g1
  have hfin : ∀ u : Value, vs[0]? = some u → (Calls Try.prog 102 #[u, .string sep] w fun e w' => e = .returned (.string ⟨(Lib.join (l.map (·.data.toList)) sep.data.toList).toArray⟩) ∧ Below w.heap.size w w') →
      Calls Try.prog 102 vs w fun e w' => ∃ v, e = .returned v ∧ VR w' O noB [] (.base (.string ⟨(Lib.join (l.map (·.data.toList)) sep.data.toList).toArray⟩)) v ∧ Below w.heap.size w w' := by
    intro u hu hc
    rw [two_valsJ hs2 hu g1]
    refine hc.mono ?_
    rintro e w' ⟨rfl, hb⟩
    exact ⟨_, rfl, .base _, hb⟩
  generalize vs[0] = u at *
  refine hfin u g0 ?_
  generalize hes : l.map (fun s => AV.base (.string s)) = es at *
  cases h0 with
  | lnil =>
    have : l = [] := by simpa using hes
    subst this
    exact (Any.strings_Join_none laysJ extraJ none 0 sep w).mono fun e w' h => ⟨h.1, h.2 ▸ Below.refl _ _⟩
  | lst es a n cap s val hn hcap hmax hlen2 hspot hc hv2 =>
    subst hes
    have hnl : n = l.length := by simpa using hn
    subst hnl
    rcases l with _ | ⟨x, r⟩
    · exact (Any.strings_Join_none laysJ extraJ (some a) cap sep w).mono fun e w' h => ⟨h.1, h.2 ▸ Below.refl _ _⟩
    · have hsp : a.spot = none := hspot (.base (.string x)) (by simp)
      have hs1 : s = 1 := (hlen2 (.base (.string x)) (by simp)).symm
      subst hs1
      obtain ⟨bk, off, sp⟩ := a
      simp only at hsp; subst hsp
      have hcl : ∀ (j : Nat) y, (x :: r)[j]? = some y → w.cell? ⟨bk, off + j, none⟩ = some (.string y) := fun j y hj => by
        have e1 : ((x :: r).map (fun s => AV.base (.string s)))[j]? = some (.base (.string y)) := by rw [List.getElem?_map, hj]; rfl
        have k1 := (hc j 0 _ _ e1 rfl).2
        have k2 := (hv2 j 0 _ _ e1 rfl).base_inv
        rw [k2] at k1
        simpa using k1
      have hbk : bk < w.heap.size := by
        have := hcl 0 x rfl
        exact Classical.byContradiction fun hn => by
          have h9 : w.heap[bk]? = none := Array.getElem?_eq_none (by omega)
          simp [World.cell?, h9] at this
      exact Any.strings_Join laysJ extraJ bk off cap (x :: r) sep w hcl hbk (by omega) hcap hlen
end Go.Ab
set_option maxHeartbeats 4000000
namespace Go.Ab
open Go Go.Ab Go.Proofs Go.Ab.Ty

/-! ### the text of an expression -/
def spL : List UInt8 := [92, 40, 41, 91, 93, 124, 38, 42, 33]
def wrp (op o : Int) : Bool := decide (o = 5 ∨ o = 7 ∨ o = 4 ∨ (op = 6 ∧ (o = 8 ∨ o = 6)) ∨ (op = 4 ∧ o = 8))
mutual
def txt : Rx → List UInt8
  | .mk o s l => if o = 1 then [91, 93] else if o = 2 then [40, 41] else if o = 3 then (if s.size = 1 then escB spL s.data.toList else 91 :: (escB [92, 91, 93] s.data.toList ++ [93])) else
     if o = 5 then Lib.join (txs 5 l) [124] else if o = 7 then Lib.join (txs 7 l) [38] else if o = 6 then (txs 6 l).headD [] ++ [42] else if o = 8 then 33 :: (txs 8 l).headD [] else Lib.join (txs o l) []
def txs (op : Int) : List Rx → List (List UInt8)
  | [] => []
  | x :: l => (if wrp op x.op then 40 :: (txt x ++ [41]) else txt x) :: txs op l
end
def sbx (op : Int) (x : Rx) : List UInt8 := if wrp op x.op then 40 :: (txt x ++ [41]) else txt x
theorem txs_map (op : Int) : ∀ l : List Rx, txs op l = l.map (sbx op)
  | [] => rfl
  | x :: l => by rw [txs, txs_map op l]; rfl
theorem join_len (sep : List UInt8) (h1 : sep.length ≤ 1) : ∀ L : List (List UInt8), (Lib.join L sep).length ≤ (L.map fun x => x.length + 1).sum
  | [] => by simp [Lib.join]
  | [x] => by simp [Lib.join]
  | x :: y :: L => by
    have := join_len sep h1 (y :: L)
    simp only [Lib.join, List.intercalate_cons_cons, List.length_append, List.map_cons, List.sum_cons] at this ⊢
    omega
theorem txt_len (r : Rx) (h : r.wf) : (txt r).length ≤ 140 * r.cnt := by
  induction r using Rx.ind with
  | h o s l ih =>
  obtain ⟨hno, hl⟩ := wf_sub.1 h
  unfold nodeOk at hno
  rw [cnt_mk]
  have hs : ∀ op, ∀ x ∈ l, (sbx op x).length ≤ 140 * x.cnt + 2 := fun op x hx => by
    have := ih x hx (hl x hx)
    unfold sbx
    split <;> simp <;> omega
  have hsum : ∀ op, ∀ L : List Rx, (∀ x ∈ L, x ∈ l) → ((txs op L).map fun x => x.length + 1).sum ≤ 140 * cnts L + 3 * L.length := fun op L => by
    induction L with
    | nil => intro _; simp [txs, cnts]
    | cons x L ih2 =>
      intro hm
      have h1 := ih2 fun y hy => hm y (by simp [hy])
      have h2 := hs op x (hm x (by simp))
      rw [txs_map] at h1 ⊢
      simp only [List.map_cons, List.sum_cons, cnts, List.length_cons] at h1 ⊢
      omega
  have hhd : ∀ op, ((txs op l).headD []).length ≤ 140 * cnts l + 2 := fun op => by
    rw [txs_map]
    cases l with
    | nil => simp
    | cons x L => have := hs op x (by simp); simp only [List.map_cons, List.headD_cons, cnts]; omega
  have he := fun sp => escB_len sp s.data.toList
  have hsz : s.data.toList.length = s.size := by rw [Array.length_toList]; rfl
  have hj := fun sep h1 op => join_len sep h1 (txs op l)
  have hsm := fun op => hsum op l fun _ h => h
  rw [txt]
  split
  · simp; omega
  split
  · simp; omega
  split
  · rename_i h3
    rw [if_pos h3] at hno
    split
    · have := he spL; omega
    · have := he [92, 91, 93]; simp only [List.length_cons, List.length_append, List.length_nil]; omega
  rename_i h3
  rw [if_neg h3] at hno
  have hl8 : l.length ≤ 8 := by omega
  split
  · have := hj [124] (by simp) 5; have := hsm 5; omega
  split
  · have := hj [38] (by simp) 7; have := hsm 7; omega
  split
  · have := hhd 6; simp only [List.length_append, List.length_cons, List.length_nil]; omega
  split
  · have := hhd 8; simp only [List.length_cons]; omega
  · have := hj [] (by simp) o; have := hsm o; omega
theorem sbx_len (op : Int) (x : Rx) (h : x.wf) : (sbx op x).length ≤ 140 * x.cnt + 2 := by
  have := txt_len x h
  unfold sbx
  split <;> simp <;> omega
theorem sub_ok (op : Int) (x : Rx) (h : x.wf) (hc : x.cnt ≤ 1000) (i1 : Fn Try.prog 75 [encX x] (str (bsL (txt x)))) : Fn Try.prog 100 [.int op, encX x] (str (bsL (sbx op x))) := by
  have hlen := txt_len x h
  have hS : wrp op x.op = true → sbx op x = 40 :: (txt x ++ [41]) := fun h => by rw [sbx, if_pos h]
  have hN : wrp op x.op = false → sbx op x = txt x := fun h => by rw [sbx, if_neg (by rw [h]; simp)]
  generalize hT : txt x = T at *
  generalize sbx op x = R at *
  obtain ⟨o, s, l⟩ := x
  have hW : wrp op (Rx.mk o s l).op = decide (o = 5 ∨ o = 7 ∨ o = 4 ∨ (op = 6 ∧ (o = 8 ∨ o = 6)) ∨ (op = 4 ∧ o = 8)) := rfl
  rw [hW] at hS hN
  rw [encX_mk] at i1 ⊢
  refine Fn.intro' [(0, .int op), (1, .agg [.int o, str s, .lst (l.map encX)])] 2 50 Try.func100 (by kernel_rfl) rfl rfl rfl rfl rfl ?_
  have hsz := bsL_size T
  have hE : decide (o = 5 ∨ o = 7 ∨ o = 4 ∨ (op = 6 ∧ (o = 8 ∨ o = 6)) ∨ (op = 4 ∧ o = 8)) = (bif bif bif bif decide (o = 5) then true else decide (o = 7) then true else decide (o = 4) then true
      else bif decide (op = 6) then bif decide (o = 8) then true else decide (o = 6) else false then true else bif decide (op = 4) then decide (o = 8) else false) := by
    rw [Bool.eq_iff_iff]
    simp only [Bool.cond_eq_ite, Bool.if_true_left, Bool.if_false_right, Bool.or_eq_true, Bool.and_eq_true, decide_eq_true_eq]
    omega
  refine goB ?_
  refine ifA (fun h1 => ?_) (fun h1 => ?_)
  · have hR : R = 40 :: (T ++ [41]) := hS (by
      rw [← h1, hE])
    rw [hR]
    refine goB ?_
    refine callA (i1) ?_
    refine ARun.q1 rfl rfl (ql_addStr (a := bsL [40]) (b := bsL T) rfl rfl (by rw [bsL_size, bsL_size]; simp; omega)) ?_
    rw [bsL_app]
    refine ARun.q1 rfl rfl (ql_addStr (a := bsL ([40] ++ T)) (b := bsL [41]) rfl rfl (by rw [bsL_size, bsL_size]; simp; omega)) ?_
    rw [bsL_app, show ([40] ++ T) ++ [41] = 40 :: (T ++ [41]) by simp]
    refine goB ?_
    exact Ret.data rfl rfl (.base _)
  · have hR : R = T := hN (by
      rw [← h1, hE])
    rw [hR]
    refine goB ?_
    refine callA (i1) ?_
    refine goB ?_
    exact Ret.data rfl rfl (.base _)
abbrev sbl27 (L : List (List UInt8)) : ABlk := ⟨9, 1, (L.map bsL).map str⟩
theorem PuB_s (L : List (List UInt8)) : ∀ e ∈ (sbl27 L).es, ∀ c ∈ e.cells, Pu c := fun e he c hc => by
  obtain ⟨x, _, rfl⟩ := List.mem_map.1 he
  simp only [AV.cells, List.mem_singleton] at hc; subst hc; exact .base _
theorem Pu_strc (x : ByteArray) : ∀ c ∈ (str x).cells, Pu c := fun c hc => by
  simp only [AV.cells, List.mem_singleton] at hc; subst hc; exact .base _
theorem joinT_ok (L : List (List UInt8)) (sep : List UInt8) (h1 : L.length ≤ 1000) (h2 : (Lib.join L sep).length ≤ 10000000) : Fn Try.prog 102 [.lst ((L.map bsL).map str), str (bsL sep)] (str (bsL (Lib.join L sep))) := by
  have hm : (L.map bsL).map (fun x : ByteArray => x.data.toList) = L := by
    rw [List.map_map]
    exact List.map_id' L
  have := joinS_ok (L.map bsL) (bsL sep) (by rw [List.length_map]; omega) (by rw [hm]; exact Nat.le_trans h2 (by omega))
  rw [hm] at this
  exact this
theorem txs_take {op : Int} {l : List Rx} {k : Nat} (h : k < l.length) : (txs op l).take (k + 1) = (txs op l).take k ++ [sbx op l[k]] := by
  rw [List.take_succ_eq_append_getElem (by rw [txs_map, List.length_map]; exact h)]
  congr 2
  simp only [txs_map, List.getElem_map]
theorem text_ok (r : Rx) (h : r.wf) (hc : r.cnt ≤ 1000) : Fn Try.prog 75 [encX r] (str (bsL (txt r))) := by
  induction r using Rx.ind with
  | h o s l ih =>
  obtain ⟨hno, hl⟩ := wf_sub.1 h
  have hcx := cnt_mk o s l
  have htl := txt_len _ h
  have ih := fun x hx => sub_ok o x (hl x hx) (by have := cnts_mem hx; omega) (ih x hx (hl x hx) (by have := cnts_mem hx; omega))
  have hR : txt (.mk o s l) = txt (.mk o s l) := rfl
  conv at hR => rhs; rw [txt]
  have hlen := lenL_cnts l
  have hTk := fun k (h : k < l.length) => txs_take (op := o) h
  have hTn : (txs o l).length = l.length := by rw [txs_map, List.length_map]
  have hT0 : (txs o l).take l.length = txs o l := List.take_of_length_le (by omega)
  have hs1 : s.size ≤ 100000 → Fn Try.prog 101 [str s, str ⟨#[92, 40, 41, 91, 93, 124, 38, 42, 33]⟩] (str (bsL (escB spL s.data.toList))) := fun hs => escaped_ok s ⟨#[92, 40, 41, 91, 93, 124, 38, 42, 33]⟩ hs
  have hs2 : s.size ≤ 100000 → Fn Try.prog 101 [str s, str ⟨#[92, 91, 93]⟩] (str (bsL (escB [92, 91, 93] s.data.toList))) := fun hs => escaped_ok s ⟨#[92, 91, 93]⟩ hs
  rw [encX_mk]
  refine Fn.intro' [(0, .agg [.int o, str s, .lst (l.map encX)])] 1 63 Try.func75 (by kernel_rfl) rfl rfl rfl rfl rfl ?_
  refine goB ?_
  refine keA [1, 3, 7, 8, 9] ?_
  refine AWp.weaken (Wk.nil (E2 := [(1, .ptr 0 1 0 0), (3, .own 1 0 0 0), (7, .lst (l.map encX)), (8, .int l.length), (9, .int 0)]) 9 1 (by simp [lk, Le.refl])) ?_
  generalize hTd : txs o l = D at *
  refine AWp.loopH (J := fun k : Nat => k ≤ l.length) (fun k => [(3, .own 1 k 0 k), (9, .int k)]) (fun k => [⟨24, 3, [.agg [.int o, str s, .lst (l.map encX)]]⟩, sbl27 (D.take k)]) (fun k => l.length - k) 0 (Nat.zero_le _) .wk ?_
  intro k hk
  refine goB ?_
  refine ifA (fun hd => ?_) (fun hd => ?_)
  · have hd := of_decide_eq_true hd
    have hk2 : k < l.length := by omega
    have i1 := ih _ (List.getElem_mem hk2)
    have hTk := hTk k hk2
    rcases hx : l[k] with ⟨o1, s1, l1⟩
    rw [hx] at i1 hTk
    rw [encX_mk] at i1
    refine goA ?_
    refine ARun.q1 rfl rfl (ql_indexAddr_lst rfl rfl Try.underlying22 (by omega) (e := .agg [.int o1, str s1, .lst (l1.map encX)]) (by simp [hk2, hx, encX_mk]) (by kernel_rfl)) ?_
    refine goA ?_
    refine callA (i1) ?_
    refine bslA Try.underlying50 sz9 ?_
    refine ARun.p1 rfl rfl (pl_append (b := 1) (tot := k) (es := [str (bsL (sbx o (.mk o1 s1 l1)))]) (by simp +decide only [go_sem] <;> rfl) (by simp +decide only [go_sem] <;> rfl) rfl (by simp; omega) Try.underlying50 el9 rfl rfl (by simp) (fun e he => by rw [List.mem_singleton] at he; subst he; exact ⟨rfl, rfl⟩) (by simp; omega) (by simp; omega)) ?_
    have hb2 : ((D.take k).map bsL).map str ++ [str (bsL (sbx o (.mk o1 s1 l1)))] = ((D.take (k + 1)).map bsL).map str := by rw [hTk, List.map_append, List.map_append]; rfl
    rw [hb2]
    refine goA ?_
    rw [wrap_succ (by omega)]
    exact ⟨k + 1, by omega, by omega, (Wk.trim' 2 rfl (by simp +decide only [go_sem, WkP]; (repeat' apply And.intro); all_goals first | trivial | exact .pu (.base _) | exact .ptr (by decide) | exact .own (by decide) | exact .pu (by simp) | exact .bad _)) (pubB (PuBl.cons (PuBlX o s l _ (List.mem_singleton.2 rfl)) (PuBl.cons (PuB_s (D.take (k + 1))) .nil)))⟩
  have hd := of_decide_eq_false hd
  obtain rfl : k = l.length := by omega
  rw [hT0]
  unfold nodeOk at hno
  by_cases h3 : o = 3
  · subst h3
    rw [if_pos rfl] at hno
    rw [if_neg (by omega), if_neg (by omega), if_pos rfl] at hR
    rw [hR]
    refine goB ?_
    refine iff_ ?_
    refine goB ?_
    refine iff_ ?_
    refine goB ?_
    refine ift_ ?_
    refine goB ?_
    refine ifA (fun h1 => ?_) (fun h1 => ?_)
    · have h1 : s.size = 1 := by have := of_decide_eq_true h1; omega
      rw [if_pos h1]
      refine goB ?_
      refine callA ((hs1 (by omega))) ?_
      refine goB ?_
      exact Ret.data rfl rfl (.base _)
    · have h1 : ¬ s.size = 1 := fun e => (of_decide_eq_false h1) (by omega)
      rw [if_neg h1]
      have hel := escB_len [92, 91, 93] s.data.toList
      have hsl : s.data.toList.length = s.size := by rw [Array.length_toList]; rfl
      refine goB ?_
      refine callA ((hs2 (by omega))) ?_
      generalize escB [92, 91, 93] s.data.toList = E at *
      refine ARun.q1 rfl rfl (ql_addStr (a := bsL [91]) (b := bsL E) rfl rfl (by rw [bsL_size, bsL_size]; simp; omega)) ?_
      rw [bsL_app]
      refine ARun.q1 rfl rfl (ql_addStr (a := bsL ([91] ++ E)) (b := bsL [93]) rfl rfl (by rw [bsL_size, bsL_size]; simp; omega)) ?_
      rw [bsL_app, show ([91] ++ E) ++ [93] = 91 :: (E ++ [93]) by simp]
      refine goB ?_
      exact Ret.data rfl rfl (.base _)
  rw [if_neg h3] at hno
  have hl8 : l.length ≤ 8 := by omega
  rcases hno.2 with ⟨h1 | h1, h2⟩ | ⟨h1 | h1 | h1, h2, h28⟩ | ⟨h1 | h1, h2⟩
  · subst h1
    rw [if_pos rfl] at hR
    rw [hR]
    refine goB ?_
    refine ift_ ?_
    refine goB ?_
    exact Ret.data rfl rfl (.base _)
  · subst h1
    rw [if_neg (by omega), if_pos rfl] at hR
    rw [hR]
    refine goB ?_
    refine iff_ ?_
    refine goB ?_
    refine ift_ ?_
    refine goB ?_
    exact Ret.data rfl rfl (.base _)
  · subst h1
    rw [if_neg (by omega), if_neg (by omega), if_neg (by omega), if_neg (by omega), if_neg (by omega), if_neg (by omega), if_neg (by omega)] at hR
    rw [hR]
    refine goB ?_
    refine iff_ ?_
    refine goB ?_
    refine iff_ ?_
    refine goB ?_
    refine iff_ ?_
    refine goB ?_
    refine iff_ ?_
    refine goB ?_
    refine iff_ ?_
    refine goB ?_
    refine iff_ ?_
    refine goB ?_
    refine iff_ ?_
    refine goB ?_
    refine ARun.q1 rfl rfl (ql_callM (args := [.lst ((D.map bsL).map str), str (bsL [])]) rfl (by simp +decide only [go_sem] <;> rfl) (by simp +decide only [go_sem, List.map, LendL]; exact ⟨.ownM (f := str) (l := D.map bsL) rfl (by rw [List.length_map]; exact hTn) fun x _ => Pu_strc x, .pu (.base _)⟩) (.base _) (joinT_ok D [] (by omega) (by rw [← hR]; omega))) ?_
    refine goB ?_
    exact Ret.data rfl rfl (.base _)
  · subst h1
    rw [if_neg (by omega), if_neg (by omega), if_neg (by omega), if_pos rfl, hTd] at hR
    rw [hR]
    refine goB ?_
    refine iff_ ?_
    refine goB ?_
    refine iff_ ?_
    refine goB ?_
    refine iff_ ?_
    refine goB ?_
    refine ift_ ?_
    refine goB ?_
    refine ARun.q1 rfl rfl (ql_callM (args := [.lst ((D.map bsL).map str), str (bsL [124])]) rfl (by simp +decide only [go_sem] <;> rfl) (by simp +decide only [go_sem, List.map, LendL]; exact ⟨.ownM (f := str) (l := D.map bsL) rfl (by rw [List.length_map]; exact hTn) fun x _ => Pu_strc x, .pu (.base _)⟩) (.base _) (joinT_ok D [124] (by omega) (by rw [← hR]; omega))) ?_
    refine goB ?_
    exact Ret.data rfl rfl (.base _)
  · subst h1
    rw [if_neg (by omega), if_neg (by omega), if_neg (by omega), if_neg (by omega), if_pos rfl, hTd] at hR
    rw [hR]
    refine goB ?_
    refine iff_ ?_
    refine goB ?_
    refine iff_ ?_
    refine goB ?_
    refine iff_ ?_
    refine goB ?_
    refine iff_ ?_
    refine goB ?_
    refine ift_ ?_
    refine goB ?_
    refine ARun.q1 rfl rfl (ql_callM (args := [.lst ((D.map bsL).map str), str (bsL [38])]) rfl (by simp +decide only [go_sem] <;> rfl) (by simp +decide only [go_sem, List.map, LendL]; exact ⟨.ownM (f := str) (l := D.map bsL) rfl (by rw [List.length_map]; exact hTn) fun x _ => Pu_strc x, .pu (.base _)⟩) (.base _) (joinT_ok D [38] (by omega) (by rw [← hR]; omega))) ?_
    refine goB ?_
    exact Ret.data rfl rfl (.base _)
  · subst h1
    rw [if_neg (by omega), if_neg (by omega), if_neg (by omega), if_neg (by omega), if_neg (by omega), if_pos rfl, hTd] at hR
    rw [hR]
    match D, hTn.trans h2 with
    | [d], _ =>
    simp only [List.headD_cons] at hR ⊢
    rw [hR, List.length_append] at htl
    rw [h2]
    refine goB ?_
    refine iff_ ?_
    refine goB ?_
    refine iff_ ?_
    refine goB ?_
    refine iff_ ?_
    refine goB ?_
    refine iff_ ?_
    refine goB ?_
    refine iff_ ?_
    refine goB ?_
    refine ift_ ?_
    refine goA ?_
    refine ARun.q1 rfl rfl (ql_indexAddr_own (by simp +decide only [go_sem] <;> rfl) rfl Try.underlying50 (by rfl) (by rfl) (by omega) (by omega) (by kernel_rfl)) ?_
    refine ARun.q1 rfl rfl (v := str (bsL d)) (ql_load_own (l := [bsL d]) (f := str) ByteArray.empty 0 (by simp +decide only [go_sem] <;> rfl) (by rfl) rfl rfl (by simp) (by kernel_rfl)) ?_
    simp only [List.length_cons, List.length_nil] at htl
    refine ARun.q1 rfl rfl (ql_addStr (a := bsL d) (b := bsL [42]) rfl rfl (by rw [bsL_size, bsL_size]; simp; omega)) ?_
    rw [bsL_app]
    refine goB ?_
    exact Ret.data rfl rfl (.base _)
  · subst h1
    rw [if_neg (by omega), if_neg (by omega), if_neg (by omega), if_neg (by omega), if_neg (by omega), if_neg (by omega), if_pos rfl, hTd] at hR
    rw [hR]
    match D, hTn.trans h2 with
    | [d], _ =>
    simp only [List.headD_cons] at hR ⊢
    rw [hR, List.length_cons] at htl
    rw [h2]
    refine goB ?_
    refine iff_ ?_
    refine goB ?_
    refine iff_ ?_
    refine goB ?_
    refine iff_ ?_
    refine goB ?_
    refine iff_ ?_
    refine goB ?_
    refine iff_ ?_
    refine goB ?_
    refine iff_ ?_
    refine goB ?_
    refine ift_ ?_
    refine goA ?_
    refine ARun.q1 rfl rfl (ql_indexAddr_own (by simp +decide only [go_sem] <;> rfl) rfl Try.underlying50 (by rfl) (by rfl) (by omega) (by omega) (by kernel_rfl)) ?_
    refine ARun.q1 rfl rfl (v := str (bsL d)) (ql_load_own (l := [bsL d]) (f := str) ByteArray.empty 0 (by simp +decide only [go_sem] <;> rfl) (by rfl) rfl rfl (by simp) (by kernel_rfl)) ?_
    refine ARun.q1 rfl rfl (ql_addStr (a := bsL [33]) (b := bsL d) rfl rfl (by rw [bsL_size, bsL_size]; simp; omega)) ?_
    rw [bsL_app]
    refine goB ?_
    exact Ret.data rfl rfl (.base _)
open Classical in
noncomputable def fmtA (r : Rx) : AV := if r.valid then .tup [str (bsL (txt r)), .int 0] else .tup [str ⟨#[]⟩, .int 4]
theorem format_ok (r : Rx) (hok : r.ok) (hc : r.cnt ≤ 1000000000) : Fn Try.prog 38 [encX r] (fmtA r) := by
  have i1 := valid_ok r hok hc
  have i2 := fun h : r.valid => text_ok r h.2 (by have := h.1.1; omega)
  have hT : r.valid → fmtA r = .tup [str (bsL (txt r)), .int 0] := fun h => if_pos h
  have hF : ¬ r.valid → fmtA r = .tup [str ⟨#[]⟩, .int 4] := fun h => if_neg h
  generalize fmtA r = R at *
  generalize txt r = T at *
  obtain ⟨o, s, l⟩ := r
  rw [encX_mk] at i1 i2 ⊢
  refine Fn.intro' [(0, .agg [.int o, str s, .lst (l.map encX)])] 1 9 Try.func38 (by kernel_rfl) rfl rfl rfl rfl rfl ?_
  refine goB ?_
  refine callA (i1) ?_
  refine goB ?_
  refine ifA (fun h => ?_) (fun h => ?_)
  · have h : ¬ (Rx.mk o s l).valid := by simpa using h
    rw [hF h]
    refine goB ?_
    exact Ret.data rfl rfl (Pu_tup2 (.base _) (.base _))
  have h : (Rx.mk o s l).valid := by simpa using h
  rw [hT h]
  refine goB ?_
  refine callA ((i2 h)) ?_
  refine goB ?_
  exact Ret.data rfl rfl (Pu_tup2 (.base _) (.base _))
end Go.Ab
