/- Part of the proof. -/
import Derived.Test.YtjfahhbobiiphaaXE
import Derived.Test.YtjfahhbobiiphaaAbI
import Derived.Test.YtjfahhbobiiphaaAbG
import Derived.Test.YtjfahhbobiiphaaAbF
import Derived.Test.YtjfahhbobiiphaaXF
set_option linter.unusedSimpArgs false
set_option linter.unusedVariables false
set_option maxHeartbeats 4000000
namespace Go.Ab
open Go Go.Ab Go.Proofs Go.Ab.Ty

/-! ### slices.Reverse on expressions -/
theorem ldX (r : Rx) : ldE (aggTy Try.prog 24) (szTy Try.prog 24) (encX r) 0 = some (encX r) := by
  obtain ⟨o, s, l⟩ := r
  rw [encX_mk, show aggTy Try.prog 24 = some true by kernel_rfl, show szTy Try.prog 24 = some 3 by kernel_rfl]
  rfl
theorem stX (a b : Rx) : stE (encX a) 0 (encX b).cells = some (encX b) := by
  obtain ⟨o, s, l⟩ := a
  obtain ⟨o', s', l'⟩ := b
  rw [encX_mk, encX_mk]
  rfl
section
variable {H : List ABlk} {ρ : Operand → AV}
theorem ql_loadX {x : Operand} {b tot i : Nat} {l : List Rx} {v : Rx} (hx : ρ x = .ptr b tot i 0) (hb : H[b]? = some ⟨24, 3, l.map encX⟩) (ht : l.length = tot) (hv : l[i]? = some v) : QL Try.prog H ρ (.load 24 x) (encX v) := by
  refine ql_fun1 ?_
  have e : (l.map encX)[i]? = some (encX v) := by rw [List.getElem?_map, hv]; rfl
  simp only [qfun, hx, hb, List.length_map, ht, if_true, e, ldX]
theorem pl_storeX {x y : Operand} {b tot i : Nat} {l : List Rx} (v : Rx) (hx : ρ x = .ptr b tot i 0) (hy : ρ y = encX v) (hb : H[b]? = some ⟨24, 3, l.map encX⟩) (ht : l.length = tot) (hi : i < l.length) :
    PL Try.prog H ρ (.store 24 x y) .bad (H.set b ⟨24, 3, (l.set i v).map encX⟩) := by
  refine pl_store_own v hx hy hb ht hi ?_ ?_ (stX _ _)
  · obtain ⟨o, s, l⟩ := v
    rw [encX_mk]; kernel_rfl
  · obtain ⟨o, s, l⟩ := v
    rw [encX_mk]; rfl
end
def dX : Rx := .mk 0 default []
def rv (l : List Rx) (i : Nat) : List Rx := (List.range l.length).map fun p => if p < i ∨ l.length - 1 - p < i then (l[l.length - 1 - p]?).getD dX else (l[p]?).getD dX
theorem rv_len (l : List Rx) (i : Nat) : (rv l i).length = l.length := by simp [rv]
theorem rv_at {l : List Rx} {i p : Nat} (h : p < l.length) : (rv l i)[p]? = some (if p < i ∨ l.length - 1 - p < i then (l[l.length - 1 - p]?).getD dX else (l[p]?).getD dX) := by
  simp [rv, h]
theorem rv_0 (l : List Rx) : rv l 0 = l := by
  apply List.ext_getElem?
  intro p
  rcases Nat.lt_or_ge p l.length with h | h
  · rw [rv_at h, if_neg (by omega), List.getElem?_eq_getElem h]; rfl
  · rw [List.getElem?_eq_none (by rw [rv_len]; exact h), List.getElem?_eq_none h]
theorem rv_end {l : List Rx} {i : Nat} (hi : l.length ≤ 2 * i + 1) : rv l i = l.reverse := by
  apply List.ext_getElem?
  intro p
  rcases Nat.lt_or_ge p l.length with h | h
  · rw [rv_at h, List.getElem?_reverse h]
    by_cases hp : p < i ∨ l.length - 1 - p < i
    · rw [if_pos hp, List.getElem?_eq_getElem (by omega)]; rfl
    · rw [if_neg hp, show l.length - 1 - p = p by omega, List.getElem?_eq_getElem h]; rfl
  · rw [List.getElem?_eq_none (by rw [rv_len]; exact h), List.getElem?_eq_none (by simpa using h)]
theorem rv_step {l : List Rx} {i : Nat} (hi : 2 * i + 1 < l.length) :
    ((rv l i).set i ((l[l.length - 1 - i]?).getD dX)).set (l.length - 1 - i) ((l[i]?).getD dX) = rv l (i + 1) := by
  apply List.ext_getElem?
  intro p
  rcases Nat.lt_or_ge p l.length with h | h
  · rw [rv_at h, List.getElem?_set, List.getElem?_set, rv_at h]
    simp only [List.length_set, rv_len]
    by_cases e1 : l.length - 1 - i = p
    · rw [if_pos e1, if_pos (by omega), if_pos (by omega)]; congr 3; omega
    · rw [if_neg e1]
      by_cases e2 : i = p
      · rw [if_pos e2, if_pos (by omega), if_pos (by omega), e2]
      · rw [if_neg e2]
        by_cases h3 : p < i ∨ l.length - 1 - p < i
        · rw [if_pos h3, if_pos (by omega)]
        · rw [if_neg h3, if_neg (by omega)]
  · rw [List.getElem?_eq_none (by simp [rv_len]; exact h), List.getElem?_eq_none (by rw [rv_len]; exact h)]
attribute [local go_sem] List.length_map beq_self_eq_true rv_len
theorem rev_ok (l : List Rx) (hl : l.length ≤ 1048576) : FnH Try.prog 88 [.own 0 l.length 0 l.length] [⟨24, 3, l.map encX⟩] (.tup []) [⟨24, 3, l.reverse.map encX⟩] := by
  refine FnH.intro' [(0, .own 0 l.length 0 l.length)] 1 28 1 Try.func88 (by kernel_rfl) rfl rfl rfl rfl rfl rfl ?_
  refine goB ?_
  rw [wrap_id (by omega) (by omega)]
  refine AWp.loopH (J := fun i : Nat => i ≤ l.length) (fun i => [(2, .int i), (3, .int (l.length - 1 - i))]) (fun i => [⟨24, 3, (rv l i).map encX⟩]) (fun i => l.length - i) 0 (Nat.zero_le _) (by rw [rv_0]; exact (.env' (by simp +decide only [go_sem, show (l.length : Int) - 1 - ((0 : Nat) : Int) = l.length - 1 by omega] <;> simp [Le.refl, show (l.length : Int) - 1 - ((0 : Nat) : Int) = l.length - 1 by omega]))) ?_
  rintro i hi
  refine goB ?_
  refine ifA (fun hd => ?_) (fun hd => ?_)
  · simp at hd
    refine goB ?_
    have hi2 : 2 * i + 1 < l.length := by omega
    have hj : ((l.length : Int) - 1 - i) = ((l.length - 1 - i : Nat) : Int) := by omega
    have ha : (rv l i)[i]? = some ((l[i]?).getD dX) := by rw [rv_at (by omega), if_neg (by omega)]
    have hb : (rv l i)[l.length - 1 - i]? = some ((l[l.length - 1 - i]?).getD dX) := by rw [rv_at (by omega), if_neg (by omega)]
    rw [hj]
    with_reducible apply AWp.drawBK (k := 14) [none, none, none, none, none, none, none, none, none, none, none, none, none, some 0] [0, 0, 1, 1, 0, 0, 0, 0, 1, 1, 1, 0, 0, 1] (fun c => match c with | 0 => [⟨24, 3, (rv l i).map encX⟩] | _ => [⟨24, 3, ((rv l i).set i ((l[l.length - 1 - i]?).getD dX)).map encX⟩]) 1 follows
    · refine ⟨rfl, rfl, by kernel_rfl, by decide, ?_, ?_⟩
      · simp +decide only [go_sem, List.map, List.take]; rfl
      · simp +decide only [go_sem, List.map, List.drop]; rfl
    · kernel_rfl
    · kernel_rfl
    · rfl
    · refine BRun.qf0 rfl rfl (by simp +decide only [go_sem] <;> rfl) ?_
      refine BRun.qf0 rfl rfl (by simp +decide only [go_sem] <;> rfl) ?_
      refine BRun.qf1 rfl rfl (by simp +decide only [go_sem] <;> rfl) (by simp +decide only [go_sem] <;> rfl) ?_
      refine BRun.qf1 rfl rfl (by simp +decide only [go_sem] <;> rfl) (by simp +decide only [go_sem] <;> rfl) ?_
      refine BRun.qf0 rfl rfl (by simp +decide only [go_sem] <;> rfl) ?_
      refine BRun.qf0 rfl rfl (by simp +decide only [go_sem] <;> rfl) ?_
      refine BRun.q0 rfl rfl (ql_indexAddr_own (by simp +decide only [go_sem] <;> rfl) (by simp +decide only [go_sem] <;> rfl) Try.underlying22 (by rfl) (by simp [rv_len]) (by omega) (by omega) (by kernel_rfl)) ?_
      refine BRun.q0 rfl rfl (ql_loadX (b := 0) (i := l.length - 1 - i) (by simp +decide [go_sem]) (by rfl) (rv_len l i) hb) ?_
      refine BRun.qf1 rfl rfl (by simp +decide only [go_sem] <;> rfl) (by simp +decide only [go_sem] <;> rfl) ?_
      refine BRun.qf1 rfl rfl (by simp +decide only [go_sem] <;> rfl) (by simp +decide only [go_sem] <;> rfl) ?_
      refine BRun.q1 rfl rfl (fun c _ hc => by
        rcases (by omega : c = 0 ∨ c = 1) with h | h <;> subst h <;>
        exact ql_indexAddr_own (by simp +decide only [go_sem] <;> rfl) (by simp +decide only [go_sem] <;> rfl) Try.underlying22 (by rfl) (by simp [rv_len]) (by omega) (by omega) (by kernel_rfl)) ?_
      refine BRun.q0 rfl rfl (ql_loadX (b := 0) (i := i) (by simp +decide [go_sem]) (by rfl) (rv_len l i) ha) ?_
      refine BRun.q0 rfl rfl (ql_indexAddr_own (by simp +decide only [go_sem] <;> rfl) (by simp +decide only [go_sem] <;> rfl) Try.underlying22 (by rfl) (by simp [rv_len]) (by omega) (by omega) (by kernel_rfl)) ?_
      refine BRun.p1 rfl rfl (fun ρ' h => pl_storeX (b := 0) (H := [⟨24, 3, (rv l i).map encX⟩]) ((l[l.length - 1 - i]?).getD dX) (i := i) ((h (.tmp 26) (by simp [Op.operands])).trans (by simp +decide [go_sem])) ((h (.tmp 21) (by simp [Op.operands])).trans (by simp +decide only [go_sem] <;> rfl)) (by rfl) (rv_len l i) (by rw [rv_len]; omega)) ?_
      refine BRun.nil ?_
      refine goB ?_
      refine ARun.q1 rfl rfl (ql_indexAddr_own (by simp +decide only [go_sem] <;> rfl) (by simp +decide only [go_sem] <;> rfl) Try.underlying22 (by rfl) (by simp [rv_len]) (by omega) (by omega) (by kernel_rfl)) ?_
      refine ARun.p1 rfl rfl (pl_storeX (b := 0) (tot := l.length) ((l[i]?).getD dX) (i := l.length - 1 - i) (by simp +decide [go_sem]) (by simp +decide only [go_sem] <;> rfl) (by rfl) (by simp [rv_len]) (by simp [rv_len]; omega)) ?_
      simp only [List.set, rv_step hi2]
      refine goB ?_
      rw [wrap_succ (by omega), wrap_id (by omega) (by omega)]
      exact ⟨i + 1, by omega, by omega, (.env' (by simp +decide only [go_sem, show ((l.length - 1 - i : Nat) : Int) - 1 = (l.length : Int) - 1 - (i + 1 : Nat) by omega] <;> simp [Le.refl, show ((l.length - 1 - i : Nat) : Int) - 1 = (l.length : Int) - 1 - (i + 1 : Nat) by omega]))⟩
  simp at hd
  refine goB ?_
  exact RetH.same rfl rfl (by rw [rv_end (by omega)])
end Go.Ab
-- fnh
set_option maxHeartbeats 4000000
namespace Go.Ab
open Go Go.Ab Go.Proofs Go.Ab.Ty

mutual
def revX : Rx → Rx
  | .mk o s l => .mk o s (if o = 4 then (revXs l).reverse else revXs l)
def revXs : List Rx → List Rx
  | [] => []
  | r :: l => revX r :: revXs l
end
theorem revXs_map : ∀ l : List Rx, revXs l = l.map revX
  | [] => rfl
  | r :: l => by rw [revXs, revXs_map l]; rfl
theorem revX_mk (o : Int) (s : ByteArray) (l : List Rx) : revX (.mk o s l) = .mk o s (if o = 4 then (l.map revX).reverse else l.map revX) := by
  rw [revX, revXs_map]
theorem PuBl_X (l : List Rx) : PuBl [⟨24, 3, l.map encX⟩] := by
  intro b hb e he c hc
  rw [List.mem_singleton] at hb; subst hb
  obtain ⟨x, _, rfl⟩ := List.mem_map.1 he
  exact Pu_Xc x c hc
theorem PuB_zX (o : Int) (s : ByteArray) : ∀ e ∈ (⟨24, 3, [.agg [.int o, str s, .base (.slice none 0 0)]]⟩ : ABlk).es, ∀ c ∈ e.cells, Pu c := fun e he c hc => by
  rw [List.mem_singleton] at he; subst he
  simp only [AV.cells, List.mem_cons, List.not_mem_nil, or_false] at hc
  rcases hc with rfl | rfl | rfl <;> exact .base _
theorem len_cnts : ∀ l : List Rx, l.length ≤ cnts l
  | [] => Nat.zero_le _
  | x :: l => by
    have := len_cnts l
    have := x.cnt_pos
    simp only [cnts, List.length_cons]; omega
theorem mem_cnts : ∀ {l : List Rx} {x : Rx}, x ∈ l → x.cnt ≤ cnts l
  | y :: l, x, h => by
    rcases List.mem_cons.1 h with rfl | h
    · simp only [cnts]; omega
    · have := mem_cnts h
      simp only [cnts]; omega
theorem len_cnt {o : Int} {s : ByteArray} {l : List Rx} {m : Nat} (h : (Rx.mk o s l).cnt ≤ m) : l.length ≤ m := by
  have := len_cnts l
  simp only [Rx.cnt] at h; omega
theorem sub_cnt {o : Int} {s : ByteArray} {l : List Rx} {m : Nat} (h : (Rx.mk o s l).cnt ≤ m) {x : Rx} (hx : x ∈ l) : x.cnt ≤ m := by
  have := mem_cnts hx
  simp only [Rx.cnt] at h; omega
def HX (o : Int) (s : ByteArray) (l : List Rx) (k : Nat) : List ABlk := [⟨24, 3, [.agg [.int o, str s, .lst (l.map encX)]]⟩, ⟨24, 3, [.agg [.int 0, str ByteArray.empty, .base (.slice none 0 0)]]⟩, ⟨24, 3, [.agg [.int o, str s, .own 3 k 0 k]]⟩, ⟨24, 3, ((l.take k).map revX).map encX⟩]
attribute [local go_sem] List.length_map beq_self_eq_true
theorem reversed_ok (r : Rx) (hok : r.ok) (hcn : r.cnt ≤ 1048576) : Fn Try.prog 54 [encX r] (encX (revX r)) := by
  induction r using Rx.ind with
  | h o s l ih =>
  obtain ⟨hs, hn, hl⟩ := ok_sub hok
  unfold maxLen at hs hn
  have hlc := len_cnt hcn
  have hsc := fun x hx => sub_cnt (x := x) hcn hx
  rw [encX_mk]
  refine Fn.intro' [(0, .agg [.int o, str s, .lst (l.map encX)])] 1 35 Try.func54 (by kernel_rfl) rfl rfl rfl rfl rfl ?_
  refine goD ?_
  refine bldA pl24 zero24 ?_
  refine goD ?_
  refine keA [1, 2, 3, 13, 14, 15] ?_
  refine AWp.weaken (Wk.nilC (H2 := [⟨24, 3, [.agg [.int o, str s, .lst (l.map encX)]]⟩, ⟨24, 3, [.agg [.int 0, str ByteArray.empty, .base (.slice none 0 0)]]⟩, ⟨24, 3, [.agg [.int o, str s, .own 3 0 0 0]]⟩])
    (E2 := [(1, .ptr 0 1 0 0), (2, .ptr 1 1 0 0), (3, .ptr 2 1 0 0), (13, .lst (l.map encX)), (14, .int l.length), (15, .int 0)]) 24 3
    ⟨.pu (PuBlX o s l _ (List.mem_singleton.2 rfl)), .pu (PuB_zX 0 _), .one ⟨.pu (.base _), .pu (.base _), .nil rfl, trivial⟩, trivial⟩ ?_) ?_
  · simp +decide only [NilE, lk, if_true, if_false]
    exact ⟨.ptr, .ptr, .ptr, .pu (Pu_mapX l), .pu (.base _), .pu (.base _), trivial⟩
  refine AWp.loopH (J := fun k : Nat => k ≤ l.length) (fun k => [(15, .int k)]) (fun k => HX o s l k) (fun k => l.length - k) 0 (Nat.zero_le _) (.env2 rfl (by simp +decide only [go_sem])) ?_
  intro k hk
  simp only [HX]
  refine goD ?_
  refine ifA (fun hd => ?_) (fun hd => ?_)
  · simp at hd
    refine gnD ?_
    refine AWp.block ?_
    refine gnD ?_
    have hm : l[k] ∈ l := List.getElem_mem _
    have htk : ((l.take (k + 1)).map revX).map encX = ((l.take k).map revX).map encX ++ [encX (revX l[k])] := by
      rw [List.take_succ_eq_append_getElem hd, List.map_append, List.map_append]; rfl
    rcases hx : l[k] with ⟨o1, s1, l1⟩
    rw [hx] at htk
    have ih1 := ih _ hm (hl _ hm) (hsc _ hm)
    rw [hx, encX_mk] at ih1
    rcases hy : revX (.mk o1 s1 l1) with ⟨o2, s2, l2⟩
    rw [hy, encX_mk] at ih1 htk
    refine ARun.q1 rfl rfl (ql_indexAddr_lst rfl rfl Try.underlying22 (by omega) (e := .agg [.int o1, str s1, .lst (l1.map encX)]) (by simp [hd, hx, encX_mk]) (by kernel_rfl)) ?_
    refine goD ?_
    refine callA (ih1) ?_
    refine goD ?_
    refine ARun.p1 rfl rfl (pl_append (b := 3) (tot := k) (es := [.agg [.int o2, str s2, .lst (l2.map encX)]]) (by simp +decide only [go_sem] <;> rfl) (by simp +decide only [go_sem] <;> rfl) (by simp +decide only [go_sem] <;> rfl) (by simp; omega) Try.underlying22 el24 rfl rfl (by simp) (fun e he => by rw [List.mem_singleton] at he; subst he; exact ⟨rfl, rfl⟩) (by simp; omega) (by simp; omega)) ?_
    refine goD ?_
    rw [wrap_succ (by omega)]
    refine ⟨k + 1, by omega, by omega, ?_⟩
    rw [htk]
    refine Wk.selB [0, 1, 2, 3] (by decide) (by intro b hb; exact absurd hb (Nat.not_lt_zero _)) ⟨⟨_, rfl, .pu (PuBlX o s l _ (List.mem_singleton.2 rfl))⟩, ⟨_, rfl, .pu (PuB_zX 0 _)⟩, ⟨_, rfl, .one ⟨.pu (.base _), .pu (.base _), .own rfl, trivial⟩⟩,
      ⟨_, rfl, .snoc (PuBl_X _ _ (List.mem_singleton.2 rfl)) ⟨.pu (.base _), .pu (.base _), .pu (Pu_mapX l2), trivial⟩⟩, trivial⟩ (WkR.all ?_)
    simp +decide only [go_sem, WkR]
    exact ⟨.pu (.base _), .ptr rfl, .ptr rfl, .ptr rfl, .pu (Pu_mapX l), .pu (.base _)⟩
  simp at hd
  obtain rfl : k = l.length := by omega
  rw [List.take_length]
  refine goD ?_
  refine ifA (fun ho => ?_) (fun ho => ?_)
  · simp at ho
    refine goD ?_
    have hrev := rev_ok (l.map revX) (by simpa using hlc)
    rw [List.length_map] at hrev
    refine ARun.p1 rfl rfl (pl_callH (e := [3]) (d' := .tup []) hrev (CallE.put1 (b := 3) rfl (PuBl_X _) (PuBl_X _)) rfl rfl (by simp +decide only [go_sem, List.map]; exact ⟨.own rfl, trivial⟩) (.pu (.tup (by simp)))) ?_
    refine goD ?_
    rw [revX_mk, if_pos ho, encX_mk]
    simp +decide only [go_sem]
    exact ⟨[.agg [.int o, str s, .own 3 l.length 0 l.length]], by kernel_rfl, Pub.agg' (show PubL _ 0 [_, _, _] [_, _, _] from ⟨.pu (.base _), .pu (.base _), .ownM (Nat.zero_le _) (by rfl) (by simp) (fun x _ c hc => Pu_Xc x c hc), trivial⟩)⟩
  · simp at ho
    refine goD ?_
    rw [revX_mk, if_neg ho, encX_mk]
    simp +decide only [go_sem]
    exact ⟨[.agg [.int o, str s, .own 3 l.length 0 l.length]], by kernel_rfl, Pub.agg' (show PubL _ 0 [_, _, _] [_, _, _] from ⟨.pu (.base _), .pu (.base _), .ownM (Nat.zero_le _) (by rfl) (by simp) (fun x _ c hc => Pu_Xc x c hc), trivial⟩)⟩
end Go.Ab
-- fnh
set_option maxHeartbeats 4000000
namespace Go.Ab
open Go Go.Ab Go.Proofs Go.Ab.Ty

def tgt (o : Int) (l : List Rx) : List Rx := if o = 4 then (l.map revX).reverse else l.map revX
theorem tgt_len (o : Int) (l : List Rx) : (tgt o l).length = l.length := by unfold tgt; split <;> simp
def ix (o : Int) (l : List Rx) (k : Nat) : Nat := if o = 4 then l.length - 1 - k else k
theorem ix_lt {o : Int} {l : List Rx} {k : Nat} (h : k < l.length) : ix o l k < l.length := by unfold ix; split <;> omega
theorem tgt_take {o : Int} {l : List Rx} {k : Nat} (h : k < l.length) : ((tgt o l).take (k + 1)).map encX = ((tgt o l).take k).map encX ++ [encX (revX (l[ix o l k]'(ix_lt h)))] := by
  have e : (tgt o l)[k]'(by rw [tgt_len]; exact h) = revX (l[ix o l k]'(ix_lt h)) := by
    unfold tgt ix
    by_cases ho : o = 4
    · simp [ho]
    · simp [ho]
  rw [List.take_succ_eq_append_getElem (by rw [tgt_len]; exact h), List.map_append, e]; rfl
def HY (o : Int) (s : ByteArray) (l : List Rx) (k : Nat) : List ABlk := [⟨24, 3, [.agg [.int o, str s, .lst (l.map encX)]]⟩, ⟨24, 3, [.agg [.int 0, str ByteArray.empty, .base (.slice none 0 0)]]⟩, ⟨24, 3, [.agg [.int o, str s, .own 3 k 0 k]]⟩, ⟨24, 3, ((tgt o l).take k).map encX⟩]
attribute [local go_sem] List.length_map beq_self_eq_true
theorem turned_ok (r : Rx) (hok : r.ok) (hcn : r.cnt ≤ 1048576) : Fn Try.prog 55 [encX r] (encX (revX r)) := by
  induction r using Rx.ind with
  | h o s l ih =>
  obtain ⟨hs, hn, hl⟩ := ok_sub hok
  unfold maxLen at hs hn
  have hlc := len_cnt hcn
  have hsc := fun x hx => sub_cnt (x := x) hcn hx
  rw [encX_mk]
  refine Fn.intro' [(0, .agg [.int o, str s, .lst (l.map encX)])] 1 40 Try.func55 (by kernel_rfl) rfl rfl rfl rfl rfl ?_
  refine goD ?_
  refine bldA pl24 zero24 ?_
  refine goD ?_
  refine keA [1, 2, 3, 4] ?_
  refine AWp.weaken (Wk.nilC (H2 := [⟨24, 3, [.agg [.int o, str s, .lst (l.map encX)]]⟩, ⟨24, 3, [.agg [.int 0, str ByteArray.empty, .base (.slice none 0 0)]]⟩, ⟨24, 3, [.agg [.int o, str s, .own 3 0 0 0]]⟩])
    (E2 := [(1, .ptr 0 1 0 0), (2, .ptr 1 1 0 0), (3, .ptr 2 1 0 0), (4, .int 0)]) 24 3
    ⟨.pu (PuBlX o s l _ (List.mem_singleton.2 rfl)), .pu (PuB_zX 0 _), .one ⟨.pu (.base _), .pu (.base _), .nil rfl, trivial⟩, trivial⟩ ?_) ?_
  · simp +decide only [NilE, lk, if_true, if_false]
    exact ⟨.ptr, .ptr, .ptr, .pu (.base _), trivial⟩
  refine AWp.loopH (J := fun k : Nat => k ≤ l.length) (fun k => [(4, .int k)]) (fun k => HY o s l k) (fun k => l.length - k) 0 (Nat.zero_le _) (.env2 rfl (by simp +decide only [go_sem])) ?_
  intro k hk
  simp only [HY]
  refine goD ?_
  refine ifA (fun hd => ?_) (fun hd => ?_)
  · simp at hd
    refine goD ?_
    refine keA [1, 2, 3, 4, 5, 21] ?_
    refine AWp.joinP [(5, .int (ix o l k))] ?_ ?_
    · refine goD ?_
      refine ifA (fun ho => ?_) (fun ho => ?_)
      · simp at ho
        refine goD ?_
        have e1 : IntKind.i64.wrap ((l.length : Int) - 1) = l.length - 1 := wrap_id (by omega) (by omega)
        have e2 : IntKind.i64.wrap ((l.length : Int) - 1 - k) = l.length - 1 - k := wrap_id (by omega) (by omega)
        have e3 : ((l.length : Int) - 1 - k) = ((ix o l k : Nat) : Int) := by unfold ix; rw [if_pos ho]; omega
        rw [e1, e2, e3]
        exact .wk
      · simp at ho
        refine goD ?_
        have e3 : ix o l k = k := by unfold ix; rw [if_neg ho]
        rw [e3]
        exact .wk
    have hix := ix_lt (o := o) hd
    have hm : l[ix o l k] ∈ l := List.getElem_mem _
    have htk := tgt_take (o := o) hd
    rcases hx : l[ix o l k] with ⟨o1, s1, l1⟩
    rw [hx] at htk
    have ih1 := ih _ hm (hl _ hm) (hsc _ hm)
    rw [hx, encX_mk] at ih1
    rcases hy : revX (.mk o1 s1 l1) with ⟨o2, s2, l2⟩
    rw [hy, encX_mk] at ih1 htk
    generalize ix o l k = j at *
    refine drA (k := 9) follows (hr := ?_)
    refine goD ?_
    refine ARun.q1 rfl rfl (ql_indexAddr_lst rfl rfl Try.underlying22 (by omega) (e := .agg [.int o1, str s1, .lst (l1.map encX)]) (by simp [hix, hx, encX_mk]) (by kernel_rfl)) ?_
    refine goD ?_
    refine callA (ih1) ?_
    refine goD ?_
    refine ARun.p1 rfl rfl (pl_append (b := 3) (tot := k) (es := [.agg [.int o2, str s2, .lst (l2.map encX)]]) (by simp +decide only [go_sem] <;> rfl) (by simp +decide only [go_sem] <;> rfl) (by simp +decide only [go_sem] <;> rfl) (by simp [tgt_len]; omega) Try.underlying22 el24 rfl rfl (by simp) (fun e he => by rw [List.mem_singleton] at he; subst he; exact ⟨rfl, rfl⟩) (by simp; omega) (by simp; omega)) ?_
    refine goD ?_
    rw [wrap_succ (by omega)]
    exact ⟨k + 1, by omega, by omega, .env2 (by rw [htk]) (by simp +decide only [go_sem])⟩
  simp at hd
  obtain rfl : k = l.length := by omega
  rw [List.take_of_length_le (Nat.le_of_eq (tgt_len o l))]
  refine goD ?_
  rw [revX_mk, encX_mk]
  simp +decide only [go_sem]
  exact ⟨[.agg [.int o, str s, .own 3 l.length 0 l.length]], by kernel_rfl, Pub.agg' (show PubL _ 0 [_, _, _] [_, _, _] from ⟨.pu (.base _), .pu (.base _), .ownM (Nat.zero_le _) (by rfl) (tgt_len o l) (fun x _ c hc => Pu_Xc x c hc), trivial⟩)⟩
end Go.Ab
set_option maxHeartbeats 4000000
namespace Go.Ab
open Go Go.Ab Go.Proofs Go.Ab.Ty

/-! ### Reverse -/
open Classical in
theorem reverseP_t (r : Rx) (hok : r.ok) (hc : r.cnt ≤ 1048576) (hv : r.valid) : Fn Try.prog 16 [encX r] (.tup [encX (revX r), .int 0]) := by
  have h1 := valid_ok r hok (by omega)
  have h2 := reversed_ok r hok hc
  rw [decide_eq_true hv] at h1
  rcases hx : revX r with ⟨o2, s2, l2⟩
  obtain ⟨o, s, l⟩ := r
  rw [hx, encX_mk, encX_mk] at h2
  rw [encX_mk] at h1
  rw [encX_mk, encX_mk]
  refine Fn.intro' [(0, .agg [.int o, str s, .lst (l.map encX)])] 1 10 Try.func16 (by kernel_rfl) rfl rfl rfl rfl rfl ?_
  refine goB ?_
  refine callA (h1) ?_
  refine goB ?_
  refine AWp.cond (b := false) rfl (fun h => by cases h) (fun _ => ?_)
  refine goB ?_
  refine callA (h2) ?_
  refine goB ?_
  exact ⟨[.agg [.int o2, str s2, .lst (l2.map encX)], .int 0], by kernel_rfl, Pub.tup' (show PubL _ 0 [_, _] [_, _] from ⟨.pu (Pu_aggX _ _ _), .pu (.base _), trivial⟩)⟩
open Classical in
theorem reverseP_f (r : Rx) (hok : r.ok) (hc : r.cnt ≤ 1048576) (hv : ¬ r.valid) : Fn Try.prog 16 [encX r] (.tup [encX rx0, .int 4]) := by
  have h1 := valid_ok r hok (by omega)
  rw [decide_eq_false hv] at h1
  obtain ⟨o, s, l⟩ := r
  rw [encX_mk] at h1
  rw [encX_mk, rx0, encX_mk]
  refine Fn.intro' [(0, .agg [.int o, str s, .lst (l.map encX)])] 1 10 Try.func16 (by kernel_rfl) rfl rfl rfl rfl rfl ?_
  refine goB ?_
  refine callA (h1) ?_
  refine goB ?_
  refine AWp.cond (b := true) rfl (fun _ => ?_) (fun h => by cases h)
  refine goB ?_
  refine bldA pl24 zero24 ?_
  refine goB ?_
  exact ⟨[.agg [.int 0, str ByteArray.empty, .base (.slice none 0 0)], .int 4], by kernel_rfl, Pub.tup' (show PubL _ 0 [_, _] [_, _] from ⟨Pub.agg' (show PubL _ 0 [_, _, _] [_, _, _] from ⟨.pu (.base _), .pu (.base _), .nilS, trivial⟩), .pu (.base _), trivial⟩)⟩
open Classical in
theorem reverseR_t (r : Rx) (hok : r.ok) (hc : r.cnt ≤ 1048576) (hv : r.valid) : Fn Try.prog 17 [encX r] (.tup [encX (revX r), .int 0]) := by
  have h1 := refValid_ok r hok
  have h2 := turned_ok r hok hc
  rw [decide_eq_true hv] at h1
  rcases hx : revX r with ⟨o2, s2, l2⟩
  obtain ⟨o, s, l⟩ := r
  rw [hx, encX_mk, encX_mk] at h2
  rw [encX_mk] at h1
  rw [encX_mk, encX_mk]
  refine Fn.intro' [(0, .agg [.int o, str s, .lst (l.map encX)])] 1 10 Try.func17 (by kernel_rfl) rfl rfl rfl rfl rfl ?_
  refine goB ?_
  refine callA (h1) ?_
  refine goB ?_
  refine AWp.cond (b := false) rfl (fun h => by cases h) (fun _ => ?_)
  refine goB ?_
  refine callA (h2) ?_
  refine goB ?_
  exact ⟨[.agg [.int o2, str s2, .lst (l2.map encX)], .int 0], by kernel_rfl, Pub.tup' (show PubL _ 0 [_, _] [_, _] from ⟨.pu (Pu_aggX _ _ _), .pu (.base _), trivial⟩)⟩
open Classical in
theorem reverseR_f (r : Rx) (hok : r.ok) (hc : r.cnt ≤ 1048576) (hv : ¬ r.valid) : Fn Try.prog 17 [encX r] (.tup [encX rx0, .int 4]) := by
  have h1 := refValid_ok r hok
  rw [decide_eq_false hv] at h1
  obtain ⟨o, s, l⟩ := r
  rw [encX_mk] at h1
  rw [encX_mk, rx0, encX_mk]
  refine Fn.intro' [(0, .agg [.int o, str s, .lst (l.map encX)])] 1 10 Try.func17 (by kernel_rfl) rfl rfl rfl rfl rfl ?_
  refine goB ?_
  refine callA (h1) ?_
  refine goB ?_
  refine AWp.cond (b := true) rfl (fun _ => ?_) (fun h => by cases h)
  refine goB ?_
  refine bldA pl24 zero24 ?_
  refine goB ?_
  exact ⟨[.agg [.int 0, str ByteArray.empty, .base (.slice none 0 0)], .int 4], by kernel_rfl, Pub.tup' (show PubL _ 0 [_, _] [_, _] from ⟨Pub.agg' (show PubL _ 0 [_, _, _] [_, _, _] from ⟨.pu (.base _), .pu (.base _), .nilS, trivial⟩), .pu (.base _), trivial⟩)⟩
end Go.Ab
