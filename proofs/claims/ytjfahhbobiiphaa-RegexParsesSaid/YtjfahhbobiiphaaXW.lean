/- Part of the proof. -/
import Derived.Test.YtjfahhbobiiphaaXV
import Derived.Test.YtjfahhbobiiphaaAbF
import Derived.Test.YtjfahhbobiiphaaXF
import Derived.Test.YtjfahhbobiiphaaXR
import Derived.Test.YtjfahhbobiiphaaAbM
set_option linter.unusedSimpArgs false
set_option linter.unusedVariables false
-- fnh
set_option maxHeartbeats 4000000
namespace Go.Ab
open Go Go.Ab Go.Proofs Go.Ab.Ty

/-! ### Clone, group and cat -/
theorem okX (x : Rx) : (encX x).cells.length = 3 ∧ okCells (encX x) = true := by
  obtain ⟨o, s, l⟩ := x; rw [encX_mk]; exact ⟨rfl, rfl⟩
theorem okXs (l : List Rx) : ∀ e ∈ l.map encX, e.cells.length = 3 ∧ okCells e = true := fun e he => by
  obtain ⟨x, _, rfl⟩ := List.mem_map.1 he; exact okX x
abbrev xbl (l : List Rx) : ABlk := ⟨24, 3, l.map encX⟩
theorem PuB_x (l : List Rx) : ∀ e ∈ (xbl l).es, ∀ c ∈ e.cells, Pu c := PuBl_X l _ (List.mem_singleton.2 rfl)
theorem Pu_enc (x : Rx) : Pu (encX x) := by
  obtain ⟨o, s, l⟩ := x
  rw [encX_mk]
  exact .agg fun c hc => by
    have := Pu_Xc (.mk o s l)
    rw [encX_mk] at this
    exact this c hc
theorem cloneH_ok (l : List Rx) (hl : l ≠ []) (h : l.length ≤ 1000000000000) : FnH Try.prog 145 [.lst (l.map encX)] [] (.own 0 l.length 0 l.length) [xbl l] := by
  have hl1 : 1 ≤ l.length := List.length_pos_iff.2 hl
  refine FnH.intro' [(0, .lst (l.map encX))] 1 8 0 Try.func145 (by kernel_rfl) rfl rfl rfl rfl rfl rfl ?_
  refine goD ?_
  refine ARun.q1 rfl rfl (ql_eqnil_some rfl (by simpa using hl) rfl Try.underlying22) ?_
  refine goD ?_
  refine iff_ ?_
  refine goC ?_
  refine ARun.p1 rfl rfl (pl_buildSlice (es := []) (by decide) Try.underlying22 sz24 (by kernel_rfl) (by decide) (by rfl) (by rfl) (by rfl)) ?_
  refine goD ?_
  refine ARun.p1 rfl rfl (pl_append (b := 0) (tot := 0) (es := l.map encX) (by simp +decide only [go_sem] <;> rfl) (by simp +decide only [go_sem] <;> rfl) rfl rfl Try.underlying22 el24 rfl rfl (by simpa using hl1) (okXs l) (by simp; omega) (by simp; omega)) ?_
  refine goD ?_
  exact RetH.of [0] rfl (by decide) (fun b hb => absurd hb (Nat.not_lt_zero _)) ⟨⟨_, rfl, .pu (PuB_x l)⟩, trivial⟩ (by simp +decide only [List.length_map, Nat.zero_add]; exact .own rfl)
theorem clone_ok (l : List Rx) (h : l.length ≤ 1000000000000) : Fn Try.prog 145 [.lst (l.map encX)] (.lst (l.map encX)) := by
  refine Fn.intro' [(0, .lst (l.map encX))] 1 8 Try.func145 (by kernel_rfl) rfl rfl rfl rfl rfl ?_
  rcases l with _ | ⟨x, l⟩
  · refine goD ?_
    refine ARun.q1 rfl rfl (ql_eqnil_none rfl rfl Try.underlying22) ?_
    refine goD ?_
    refine AWp.condAny rfl ?_ ?_
    · refine goD ?_
      exact ⟨_, rfl, .nilS⟩
    · refine goC ?_
      refine ARun.p1 rfl rfl (pl_buildSlice (es := []) (by decide) Try.underlying22 sz24 (by kernel_rfl) (by decide) (by rfl) (by rfl) (by rfl)) ?_
      refine goD ?_
      refine ARun.q1 rfl rfl (ql_append_zero (b := 0) (tot := 0) (by simp +decide only [go_sem] <;> rfl) (by rfl) (by simp +decide only [go_sem] <;> rfl) Try.underlying22 el24) ?_
      refine goD ?_
      exact Ret.pub rfl (Pub.ownM (f := encX) (l := []) (Nat.zero_le _) rfl rfl (fun x _ c hc => Pu_Xc x c hc))
  · refine goD ?_
    refine ARun.q1 rfl rfl (ql_eqnil_some rfl (by simp) rfl Try.underlying22) ?_
    refine goD ?_
    refine iff_ ?_
    refine goC ?_
    refine ARun.p1 rfl rfl (pl_buildSlice (es := []) (by decide) Try.underlying22 sz24 (by kernel_rfl) (by decide) (by rfl) (by rfl) (by rfl)) ?_
    refine goD ?_
    refine ARun.p1 rfl rfl (pl_append (b := 0) (tot := 0) (es := (x :: l).map encX) (by simp +decide only [go_sem] <;> rfl) (by simp +decide only [go_sem] <;> rfl) rfl rfl Try.underlying22 el24 rfl rfl (by simp) (okXs _) (by simp at h ⊢; omega) (by simp at h ⊢; omega)) ?_
    refine goD ?_
    exact Ret.pub rfl (Pub.ownM (f := encX) (l := x :: l) (Nat.zero_le _) rfl (by simp) (fun x _ c hc => Pu_Xc x c hc))
theorem grpL_fuel {o : Int} : ∀ (k j : Nat) (l : List Rx), l.length ≤ k + 8 → l.length ≤ j + 8 → grpL o k l = grpL o j l
  | 0, j, l, h, _ => by rw [grpL_small (by omega), grpL_small (by omega)]
  | k + 1, 0, l, _, h => by rw [grpL_small (by omega), grpL_small (by omega)]
  | k + 1, j + 1, l, h1, h2 => by
    rw [grpL, grpL]
    split
    · exact grpL_fuel k j _ (by simp; omega) (by simp; omega)
    · rfl
theorem group_ok (o : Int) (l : List Rx) (h : l.length ≤ 1000000000000) : Fn Try.prog 125 [.int o, .lst (l.map encX)] (encX (grp o l)) := by
  refine Fn.intro' [(0, .int o), (1, .lst (l.map encX))] 2 38 Try.func125 (by kernel_rfl) rfl rfl rfl rfl rfl ?_
  refine goD ?_
  refine keA [0, 1, 4] ?_
  refine AWp.loopP (J := fun L : List Rx => L.length ≤ l.length ∧ grpL o L.length L = grpL o l.length l) (fun L => [(1, .lst (L.map encX))]) (fun L => L.length) l ⟨Nat.le_refl _, rfl⟩ .wk ?_
  rintro L ⟨hL, hg⟩
  refine goD ?_
  refine ifA (fun h1 => ?_) (fun h1 => ?_)
  · have h1 := of_decide_eq_true h1
    obtain ⟨n, hn⟩ : ∃ n, n = min (L.length - 7) 8 := ⟨_, rfl⟩
    have hl2 : L.length ≤ 1000000000000 := by omega
    have e1 : min (IntKind.i64.wrap (IntKind.i64.wrap ((L.length : Int) - 8) + 1)) 8 = (n : Int) := by
      rw [wrap_id (x := (L.length : Int) - 8) (by omega) (by omega), wrap_id (by omega) (by omega)]; omega
    have i1 := clone_ok (L.drop (L.length - n)) (by simp; omega)
    have i2 := cloneH_ok (L.take (L.length - n)) (by intro e; have := congrArg List.length e; simp at this; omega) (by simp; omega)
    refine goD ?_
    rw [e1]
    refine goD ?_
    rw [wrap_id (by omega) (by omega), show (L.length : Int) - n = ((L.length - n : Nat) : Int) by omega]
    refine ARun.q1 rfl rfl (ql_slice_suf (l := L) (f := encX) (by simp +decide only [go_sem] <;> rfl) (by simp +decide only [go_sem] <;> rfl) Try.underlying22 (by omega) (by omega) sz24 (fun e => (okX e).1)) ?_
    rw [Int.toNat_natCast]
    refine callA (i1) ?_
    refine goC ?_
    rw [wrap_id (by omega) (by omega), show (L.length : Int) - n = ((L.length - n : Nat) : Int) by omega]
    refine ARun.q1 rfl rfl (ql_slice_pre (l := L) (f := encX) (by simp +decide only [go_sem] <;> rfl) (by simp +decide only [go_sem] <;> rfl) Try.underlying22 (by omega) (by omega) sz24 (fun e => (okX e).1)) ?_
    rw [Int.toNat_natCast]
    refine ARun.p1 rfl rfl (pl_callH (e := []) (d' := .own 1 (L.take (L.length - n)).length 0 (L.take (L.length - n)).length) i2 (CallE.new (fun b hb => by rw [List.mem_singleton] at hb; subst hb; exact PuB_x _)) rfl (by simp +decide only [go_sem] <;> rfl) (by simp +decide only [go_sem, List.map]; exact ⟨.pu (Pu_mapX _), trivial⟩) (.own rfl)) ?_
    refine goC ?_
    refine bldA pl24 zero24 ?_
    refine bslA Try.underlying22 sz24 ?_
    have hT : (L.take (L.length - n)).length = L.length - n := by simp
    refine ARun.p1 rfl rfl (pl_append (b := 1) (tot := (L.take (L.length - n)).length) (es := [encX (.mk o ByteArray.empty (L.drop (L.length - n)))]) (by simp +decide only [go_sem] <;> rfl) (by rw [encX_mk]; simp +decide only [go_sem] <;> rfl) rfl (by simp) Try.underlying22 el24 rfl rfl (by simp) (by simpa using okX _) (by rw [hT]; simp; omega) (by rw [hT]; simp; omega)) ?_
    have hb2 : (L.take (L.length - n)).map encX ++ [encX (.mk o ByteArray.empty (L.drop (L.length - n)))] = (L.take (L.length - n) ++ [Rx.mk o ByteArray.empty (L.drop (L.length - n))]).map encX := by rw [List.map_append]; rfl
    rw [hb2]
    refine goC ?_
    refine ⟨L.take (L.length - n) ++ [.mk o ByteArray.empty (L.drop (L.length - n))], ⟨by simp; omega, ?_⟩, by simp; omega, ?_⟩
    · rw [← hg]
      rw [hn]
      obtain ⟨k, hk⟩ : ∃ k, L.length = k + 1 := ⟨L.length - 1, by omega⟩
      conv => rhs; rw [hk, grpL, if_pos (by omega)]
      exact grpL_fuel _ _ _ (by simp) (by simp; omega)
    · refine Wk.trim' 1 rfl (by simp +decide only [go_sem, WkP]; exact ⟨Pub.ownM (f := encX) (l := L.take (L.length - n) ++ [.mk o ByteArray.empty (L.drop (L.length - n))]) (Nat.le_refl _) rfl (by simp) (fun x _ c hc => Pu_Xc x c hc), .pu (.base _), .ptr (by decide)⟩) (pubB (PuBl.cons (PuB_zX 0 _) .nil))
  have h1 := of_decide_eq_false h1
  have e : grp o l = .mk o ByteArray.empty L := by rw [grp, ← hg, grpL_small (by omega)]
  rw [e, encX_mk]
  refine goD ?_
  refine bldA pl24 zero24 ?_
  refine goD ?_
  exact ⟨[.agg [.int o, str ByteArray.empty, .lst (L.map encX)]], by kernel_rfl, .pu (by have := Pu_enc (.mk o ByteArray.empty L); rwa [encX_mk] at this)⟩
/-! #### cat -/
theorem catL_take {l : List Rx} {k : Nat} (h : k < l.length) : catL (l.take (k + 1)) = catL (l.take k) ++ catA l[k] := by
  induction l generalizing k with
  | nil => simp at h
  | cons r l ih =>
    cases k with
    | zero => simp [catL]
    | succ k => simp only [List.take_succ_cons, catL, List.getElem_cons_succ]; rw [ih (by simpa using h), List.append_assoc]
theorem find_take {l : List Rx} {k : Nat} (h : k < l.length) (hk : ∀ x ∈ l.take k, x.op ≠ 1) (h1 : l[k].op = 1) : l.find? isN = some l[k] := by
  induction l generalizing k with
  | nil => simp at h
  | cons r l ih =>
    cases k with
    | zero => rw [List.find?_cons_of_pos (by simpa [isN] using h1)]; rfl
    | succ k =>
      rw [List.find?_cons_of_neg (by have := hk r (by simp); simpa [isN] using this)]
      exact ih (by simpa using h) (fun x hx => hk x (by simp [hx])) (by simpa using h1)
theorem mem_take_s {α : Type} {l : List α} {k : Nat} (h : k < l.length) {x : α} (hx : x ∈ l.take (k + 1)) : x ∈ l.take k ∨ x = l[k] := by
  rw [List.take_succ_eq_append_getElem h] at hx
  rcases List.mem_append.1 hx with h1 | h1
  · exact .inl h1
  · exact .inr (List.mem_singleton.1 h1)
theorem pl_appX {H : List ABlk} {ρ : Operand → AV} {s x : Operand} {b : Nat} {A B : List Rx} (hs : ρ s = .own b A.length 0 A.length) (hx : ρ x = .lst (B.map encX)) (hb : H[b]? = some (xbl A)) (hl : (A ++ B).length ≤ 2000000000000) :
    PL Try.prog H ρ (.call { callee := .builtin .append, args := #[s, x], argTypes := #[22, 22] }) (.own b (A ++ B).length 0 (A ++ B).length) (H.set b (xbl (A ++ B))) := by
  rw [List.length_append] at hl
  rcases B with _ | ⟨y, B⟩
  · rw [List.append_nil]
    have hset : H.set b (xbl A) = H := by
      apply List.ext_getElem?
      intro i
      rw [List.getElem?_set]
      split
      · rename_i e; subst e
        split
        · exact hb.symm
        · rename_i h; rw [List.getElem?_eq_none (by omega)] at hb; cases hb
      · rfl
    rw [hset]
    exact (ql_append_zero hs (by simp [fresh, hb]) hx Try.underlying22 el24).toP
  · have := pl_append (b := b) (tot := A.length) (es := (y :: B).map encX) hs hx hb (by simp) Try.underlying22 el24 rfl rfl (by simp) (okXs _) (by simp at hl ⊢; omega) (by simp at hl ⊢; omega)
    rw [show (A ++ y :: B).length = A.length + ((y :: B).map encX).length by simp]
    rw [show (xbl (A ++ y :: B)) = { xbl A with es := (xbl A).es ++ (y :: B).map encX } by simp [xbl]]
    exact this
def CX (o : Int) (s : ByteArray) : ABlk := ⟨24, 3, [.agg [.int o, str s, .base (.slice none 0 0)]]⟩
theorem cat_ok (l : List Rx) (h : cnts l ≤ 1000000000000) : Fn Try.prog 98 [.lst (l.map encX)] (encX (catX l)) := by
  have hl := lenL_cnts l
  refine Fn.intro' [(0, .lst (l.map encX))] 1 42 Try.func98 (by kernel_rfl) rfl rfl rfl rfl rfl ?_
  refine goD ?_
  refine keA [2, 3, 6, 7, 8] ?_
  refine AWp.weaken (Wk.nil (E2 := [(2, .ptr 0 1 0 0), (3, .own 1 0 0 0), (6, .lst (l.map encX)), (7, .int l.length), (8, .int 0)]) 24 3 (by simp [lk, Le.refl])) ?_
  refine AWp.loopH (J := fun k : Nat => k ≤ l.length ∧ ∀ x ∈ l.take k, x.op ≠ 1) (fun k => [(3, .own 1 (catL (l.take k)).length 0 (catL (l.take k)).length), (8, .int k)]) (fun k => [⟨24, 3, [.agg [.int 0, str ByteArray.empty, .base (.slice none 0 0)]]⟩, xbl (catL (l.take k))]) (fun k => l.length - k) 0 ⟨Nat.zero_le _, by simp⟩ .wk ?_
  rintro k ⟨hk, hN⟩
  refine goD ?_
  refine ifA (fun h1 => ?_) (fun h1 => ?_)
  · have h1 := of_decide_eq_true h1
    have hk2 : k < l.length := by omega
    have htk := catL_take hk2
    have hft := fun h2 => find_take hk2 hN h2
    have hms := fun x => mem_take_s (x := x) hk2
    have hlb := catL_len (l.take (k + 1))
    have hlc := cnts_take_le l (k + 1)
    rcases hx : l[k] with ⟨o1, s1, l1⟩
    rw [hx] at htk hft hms
    generalize hA : catL (l.take k) = A at *
    refine goC ?_
    refine ARun.q1 rfl rfl (ql_indexAddr_lst rfl rfl Try.underlying22 (by omega) (e := .agg [.int o1, str s1, .lst (l1.map encX)]) (by simp [hk2, hx, encX_mk]) (by kernel_rfl)) ?_
    refine goC ?_
    refine ifA (fun h2 => ?_) (fun h2 => ?_)
    · have h2 : o1 = 1 := by simpa using h2
      rw [show catX l = .mk o1 s1 l1 by rw [catX, hft h2], encX_mk]
      refine goD ?_
      exact ⟨[.agg [.int o1, str s1, .lst (l1.map encX)]], by kernel_rfl, .pu (by have := Pu_enc (.mk o1 s1 l1); rwa [encX_mk] at this)⟩
    have h2 : o1 ≠ 1 := by simpa using h2
    have hN2 : ∀ x ∈ l.take (k + 1), x.op ≠ 1 := fun x hx => by
      rcases hms x hx with h | rfl
      · exact hN x h
      · exact h2
    refine goC ?_
    refine ifA (fun h3 => ?_) (fun h3 => ?_)
    · have h3 : o1 = 2 := by simpa using h3
      have hcA : catA (.mk o1 s1 l1) = [] := by simp [catA, Rx.op, h3]
      rw [hcA, List.append_nil] at htk
      refine goD ?_
      rw [wrap_succ (by omega)]
      refine ⟨k + 1, ⟨by omega, hN2⟩, by omega, ?_⟩
      rw [htk]
      exact (Wk.trim' 2 rfl (by simp +decide only [go_sem, WkP]; (repeat' apply And.intro); all_goals first | trivial | exact .pu (.base _) | exact .ptr (by decide) | exact .own (by decide) | exact .pu (by simp) | exact .bad _)) (pubB (PuBl.cons (PuB_zX 0 _) (PuBl.cons (PuB_x A) .nil)))
    have h3 : o1 ≠ 2 := by simpa using h3
    refine goC ?_
    refine ifA (fun h4 => ?_) (fun h4 => ?_)
    · have h4 : o1 = 4 := by simpa using h4
      have hcA : catA (.mk o1 s1 l1) = l1 := by simp [catA, Rx.op, Rx.subs, h3, h4]
      rw [hcA] at htk
      rw [htk] at hlb
      refine goC ?_
      refine ARun.p1 rfl rfl (pl_appX (b := 1) (A := A) (B := l1) (by simp +decide only [go_sem] <;> rfl) (by simp +decide only [go_sem] <;> rfl) rfl (by omega)) ?_
      refine goC ?_
      rw [wrap_succ (by omega)]
      refine ⟨k + 1, ⟨by omega, hN2⟩, by omega, ?_⟩
      rw [htk]
      exact (Wk.trim' 2 rfl (by simp +decide only [go_sem, WkP]; (repeat' apply And.intro); all_goals first | trivial | exact .pu (.base _) | exact .ptr (by decide) | exact .own (by decide) | exact .pu (by simp) | exact .bad _)) (pubB (PuBl.cons (PuB_zX 0 _) (PuBl.cons (PuB_x (A ++ l1)) .nil)))
    have h4 : o1 ≠ 4 := by simpa using h4
    have hcA : catA (.mk o1 s1 l1) = [.mk o1 s1 l1] := by simp [catA, Rx.op, h3, h4]
    rw [hcA] at htk
    rw [htk] at hlb
    refine goC ?_
    refine bslA Try.underlying22 sz24 ?_
    refine ARun.p1 rfl rfl (pl_appX (b := 1) (A := A) (B := [.mk o1 s1 l1]) (by simp +decide only [go_sem] <;> rfl) (by rw [List.map_cons, List.map_nil, encX_mk]; simp +decide only [go_sem] <;> rfl) rfl (by omega)) ?_
    refine goC ?_
    rw [wrap_succ (by omega)]
    refine ⟨k + 1, ⟨by omega, hN2⟩, by omega, ?_⟩
    rw [htk]
    exact (Wk.trim' 2 rfl (by simp +decide only [go_sem, WkP]; (repeat' apply And.intro); all_goals first | trivial | exact .pu (.base _) | exact .ptr (by decide) | exact .own (by decide) | exact .pu (by simp) | exact .bad _)) (pubB (PuBl.cons (PuB_zX 0 _) (PuBl.cons (PuB_x (A ++ [.mk o1 s1 l1])) .nil)))
  have h1 := of_decide_eq_false h1
  obtain rfl : k = l.length := by omega
  rw [List.take_length] at hN ⊢
  have hf : l.find? isN = none := List.find?_eq_none.2 fun x hx => by have := hN x hx; simpa [isN] using this
  have hR : catX l = finX 4 2 (catL l) := by rw [catX, hf]
  have hlb := catL_len l
  rw [hR]
  generalize catL l = A at *
  rcases A with _ | ⟨⟨o1, s1, l1⟩, A⟩
  · refine goD ?_
    refine ift_ ?_
    refine goC ?_
    refine bldA pl24 zero24 ?_
    refine goD ?_
    exact ⟨[.agg [.int 2, str ByteArray.empty, .base (.slice none 0 0)]], by kernel_rfl, Pub.agg' (show PubL _ 0 [_, _, _] [_, _, _] from ⟨.pu (.base _), .pu (.base _), .nilS, trivial⟩)⟩
  rcases A with _ | ⟨y, A⟩
  · refine goD ?_
    refine iff_ ?_
    refine goD ?_
    refine ift_ ?_
    refine goC ?_
    refine ARun.q1 rfl rfl (ql_indexAddr_own (by simp +decide only [go_sem] <;> rfl) rfl Try.underlying22 (by rfl) (by rfl) (by omega) (by omega) (by kernel_rfl)) ?_
    refine ARun.q1 rfl rfl (v := .agg [.int o1, str s1, .lst (l1.map encX)]) (ql_load_own (l := [Rx.mk o1 s1 l1]) (f := encX) rxN 0 (by simp +decide only [go_sem] <;> rfl) (by rfl) rfl rfl (by simp) (by simp only [nth, Int.toNat_zero, List.getElem?_cons_zero, Option.getD_some, encX_mk]; kernel_rfl)) ?_
    refine goC ?_
    rw [show finX 4 2 [Rx.mk o1 s1 l1] = .mk o1 s1 l1 from rfl, encX_mk]
    exact ⟨[.agg [.int o1, str s1, .lst (l1.map encX)]], by kernel_rfl, .pu (by have := Pu_enc (.mk o1 s1 l1); rwa [encX_mk] at this)⟩
  · have i1 := group_ok 4 (.mk o1 s1 l1 :: y :: A) (by omega)
    refine goD ?_
    refine iffd_ rfl (by omega) ?_
    refine goD ?_
    refine iffd_ rfl (by omega) ?_
    refine AWp.weaken (Wk.trim' (E2 := [(2, .ptr 0 1 0 0), (3, .lst ((.mk o1 s1 l1 :: y :: A).map encX))]) 1 rfl (by simp +decide only [go_sem, WkP]; exact ⟨.ptr (by decide), Pub.ownM (f := encX) (l := .mk o1 s1 l1 :: y :: A) (Nat.le_refl _) rfl (by simp) (fun x _ c hc => Pu_Xc x c hc)⟩) (pubB (PuBl.cons (PuB_zX 0 _) .nil))) ?_
    rw [show finX 4 2 (Rx.mk o1 s1 l1 :: y :: A) = grp 4 (Rx.mk o1 s1 l1 :: y :: A) from rfl]
    generalize (Rx.mk o1 s1 l1 :: y :: A) = L at *
    rcases hg : grp 4 L with ⟨o2, s2, l2⟩
    rw [hg, encX_mk] at i1
    rw [encX_mk]
    refine goD ?_
    refine callA (i1) ?_
    refine goD ?_
    exact ⟨[.agg [.int o2, str s2, .lst (l2.map encX)]], by kernel_rfl, .pu (by have := Pu_enc (.mk o2 s2 l2); rwa [encX_mk] at this)⟩
end Go.Ab
-- fnh
set_option maxHeartbeats 4000000
namespace Go.Ab
open Go Go.Ab Go.Proofs Go.Ab.Ty

/-! ### same and choose -/
open Classical in
theorem equalFunc_ok (l m : List Rx) (hl : l.length ≤ maxLen) (h : ∀ x ∈ l, ∀ y ∈ m, Fn Try.prog 127 [encX x, encX y] (.bool (decide (x = y)))) : Fn Try.prog 146 [.lst (l.map encX), .lst (m.map encX), .clo 127 []] (.bool (decide (l = m))) := by
  unfold maxLen at hl
  refine Fn.intro' [(0, .lst (l.map encX)), (1, .lst (m.map encX)), (2, .clo 127 [])] 3 32 Try.func146 (by kernel_rfl) rfl rfl rfl rfl rfl ?_
  refine goD ?_
  refine ifA (fun h1 => ?_) (fun h1 => ?_)
  · simp at h1
    refine goD ?_
    exact Ret.ff rfl (fun e => by subst e; simp at h1)
  simp at h1
  refine goD ?_
  refine keA [1, 2, 15, 16, 17] ?_
  refine AWp.loopP (J := fun k : Nat => k ≤ l.length ∧ l.take k = m.take k) (fun k => [(17, .int k)]) (fun k => l.length - k) 0 ⟨Nat.zero_le _, by simp⟩ .wk ?_
  rintro k ⟨hk, he⟩
  refine goD ?_
  refine ifA (fun h2 => ?_) (fun h2 => ?_)
  · have h2 := of_decide_eq_true h2
    have hk2 : k < l.length := by omega
    have hk3 : k < m.length := by omega
    have i1 := h l[k] (List.getElem_mem _) m[k] (List.getElem_mem _)
    have hs1 := List.take_succ_eq_append_getElem hk2
    have hs2 := List.take_succ_eq_append_getElem hk3
    rcases hx : l[k] with ⟨o1, s1, l1⟩
    rcases hy : m[k] with ⟨o2, s2, l2⟩
    rw [hx] at hs1
    rw [hy] at hs2
    rw [hx, hy, encX_mk, encX_mk] at i1
    refine goC ?_
    refine ARun.q1 rfl rfl (ql_indexAddr_lst rfl rfl Try.underlying22 (by omega) (e := .agg [.int o1, str s1, .lst (l1.map encX)]) (by simp [hk2, hx, encX_mk]) (by kernel_rfl)) ?_
    refine goC ?_
    refine ARun.q1 rfl rfl (ql_indexAddr_lst rfl rfl Try.underlying22 (by omega) (e := .agg [.int o2, str s2, .lst (l2.map encX)]) (by simp [hk3, hy, encX_mk]) (by kernel_rfl)) ?_
    refine goC ?_
    refine callA (i1) ?_
    refine goD ?_
    refine ifA (fun h3 => ?_) (fun h3 => ?_)
    · simp at h3
      refine goD ?_
      exact Ret.ff rfl (fun e => by
        subst e
        rw [hx] at hy
        injection hy with e1 e2 e3
        rcases h3 with h3 | h3 | h3
        · exact h3 e1
        · exact h3 e2
        · exact h3 e3)
    simp at h3
    refine goD ?_
    rw [wrap_succ (by omega)]
    refine ⟨k + 1, ⟨by omega, ?_⟩, by omega, Wk.trim' 0 rfl (by simp +decide only [go_sem, WkP]; exact ⟨.pu (.base _), .pu (Pu_mapX _), .pu (.clo (by simp)), .pu (Pu_mapX _), .pu (.base _)⟩) (fun _ h => by cases h)⟩
    rw [hs1, hs2, he, h3.1, h3.2.1, h3.2.2]
  have h2 := of_decide_eq_false h2
  obtain rfl : k = l.length := by omega
  refine goD ?_
  exact Ret.tt rfl (by
    rw [List.take_length] at he
    rw [he, List.take_of_length_le (by omega)])
open Classical in
theorem same_ok (a : Rx) : ∀ b : Rx, a.ok → Fn Try.prog 127 [encX a, encX b] (.bool (decide (a = b))) := by
  induction a using Rx.ind with
  | h o s l ih =>
  rintro ⟨o', s', l'⟩ hok
  obtain ⟨hs, hn, hl⟩ := ok_sub hok
  have i1 := equalFunc_ok l l' hn fun x hx y _ => ih x hx y (hl x hx)
  rw [encX_mk, encX_mk]
  refine Fn.intro' [(0, .agg [.int o, str s, .lst (l.map encX)]), (1, .agg [.int o', str s', .lst (l'.map encX)])] 2 24 Try.func127 (by kernel_rfl) rfl rfl rfl rfl rfl ?_
  refine goD ?_
  refine gcallA (i := fun hg => i1) (hp := by simpa using Pu.clo (by simp)) (hr := ?_)
  refine goD ?_
  exact Ret.bool rfl (by rw [decide_eq_true_iff]; simp [bs_toList]; grind)
theorem chose_ok (x y : Rx) (hok : x.ok) : Fn Try.prog 126 [encX y, .iptr (encX x) 0] (.bool (@decide (x = y) (Classical.propDecidable _))) := by
  have i1 := same_ok x y hok
  obtain ⟨o, s, l⟩ := x
  obtain ⟨o', s', l'⟩ := y
  rw [encX_mk, encX_mk] at i1 ⊢
  refine Fn.intro' [(0, .agg [.int o', str s', .lst (l'.map encX)]), (1, .iptr (.agg [.int o, str s, .lst (l.map encX)]) 0)] 2 7 Try.func126 (by kernel_rfl) rfl rfl rfl rfl rfl ?_
  refine goD ?_
  refine callA (i1) ?_
  refine goD ?_
  exact Ret.bool rfl Iff.rfl
/-! #### choose -/
theorem chO_take {l : List Rx} {out : List Rx} {k : Nat} (h : k < l.length) : chO out (l.take (k + 1)) = chO (chO out (l.take k)) [l[k]] := by
  rw [List.take_succ_eq_append_getElem h, chO_app]
theorem chL_take {o : Int} {l : List Rx} {k : Nat} (h : k < l.length) : chL o (l.take (k + 1)) = chL o (l.take k) ++ chA o l[k] := by
  induction l generalizing k with
  | nil => simp at h
  | cons r l ih =>
    cases k with
    | zero => simp [chL]
    | succ k => simp only [List.take_succ_cons, chL, List.getElem_cons_succ]; rw [ih (by simpa using h), List.append_assoc]
theorem chL_app (o : Int) : ∀ a b : List Rx, chL o (a ++ b) = chL o a ++ chL o b
  | [], b => rfl
  | x :: a, b => by rw [List.cons_append, chL, chL, chL_app o a b, List.append_assoc]
def all1 (l : List Rx) : Prop := ∀ x ∈ l, x.op ≠ 1
theorem find_app {a b : List Rx} (h : all1 a) : (a ++ b).find? isN = b.find? isN := by
  induction a with
  | nil => rfl
  | cons x a ih =>
    rw [List.cons_append, List.find?_cons_of_neg (by have := h x (by simp); simpa [isN] using this)]
    exact ih fun y hy => h y (by simp [hy])
theorem choose_ok (o : Int) (l : List Rx) (hok : ∀ x ∈ l, x.ok) (h : cnts l ≤ 1000000000000) : Fn Try.prog 99 [.int o, .lst (l.map encX)] (encX (chX o l)) := by
  have hl := lenL_cnts l
  refine Fn.intro' [(0, .int o), (1, .lst (l.map encX))] 2 67 Try.func99 (by kernel_rfl) rfl rfl rfl rfl rfl ?_
  refine goD ?_
  refine keA [0, 4, 5, 11, 12, 13] ?_
  refine AWp.weaken (Wk.nil (E2 := [(0, .int o), (4, .ptr 0 1 0 0), (5, .own 1 0 0 0), (11, .lst (l.map encX)), (12, .int l.length), (13, .int 0)]) 24 3 (by simp [lk, Le.refl])) ?_
  refine AWp.loopH (J := fun k : Nat => k ≤ l.length ∧ (o = 7 → all1 (chL o (l.take k)))) (fun k => [(5, .own 1 (chO [] (chL o (l.take k))).length 0 (chO [] (chL o (l.take k))).length), (13, .int k)]) (fun k => [⟨24, 3, [.agg [.int 0, str ByteArray.empty, .base (.slice none 0 0)]]⟩, xbl (chO [] (chL o (l.take k)))]) (fun k => l.length - k) 0 ⟨Nat.zero_le _, by simp [chL, all1]⟩ .wk ?_
  rintro k ⟨hk, hN⟩
  refine goD ?_
  refine ifA (fun h1 => ?_) (fun h1 => ?_)
  · have h1 := of_decide_eq_true h1
    have hk2 : k < l.length := by omega
    have htk := chL_take (o := o) hk2
    have hro := hok _ (List.getElem_mem hk2)
    have hlb : (chL o (l.take (k + 1))).length ≤ cnts l := Nat.le_trans (lenL_cnts _) (Nat.le_trans (chL_cnt _ _) (cnts_take_le _ _))
    have hdr : l = l.take (k + 1) ++ l.drop (k + 1) := (List.take_append_drop _ _).symm
    have hA0 := chO_len (chL o (l.take k)) []
    have hO := fun B => chO_app (chL o (l.take k)) B []
    rcases hx : l[k] with ⟨o1, s1, l1⟩
    rw [hx] at htk hro
    rw [htk, List.length_append] at hlb
    have hfin : ∀ x, o = 7 → all1 (chL o (l.take k)) → ((chA o (.mk o1 s1 l1)).find? isN = some x) → chX o l = x := fun x ho h1 h2 => by
      have : (chL o l).find? isN = some x := by
        rw [hdr, chL_app, htk, List.append_assoc, find_app h1, List.find?_append, h2]; rfl
      rw [chX, if_pos ho, this]
    simp only [List.length_nil, Nat.zero_add] at hA0
    generalize hCd : chL o (l.take k) = C at *
    generalize hA : chO [] C = A at *
    refine goC ?_
    refine ARun.q1 rfl rfl (ql_indexAddr_lst rfl rfl Try.underlying22 (by omega) (e := .agg [.int o1, str s1, .lst (l1.map encX)]) (by simp [hk2, hx, encX_mk]) (by kernel_rfl)) ?_
    refine goC ?_
    refine bslA Try.underlying22 sz24 ?_
    refine goD ?_
    refine keA [0, 4, 5, 7, 8, 11, 12, 13, 22] ?_
    have hBok : ∀ x ∈ chA o (.mk o1 s1 l1), x.ok := by
      unfold chA
      split
      · exact (ok_sub hro).2.2
      · simpa using hro
    obtain ⟨B, hB⟩ : ∃ B, B = chA o (.mk o1 s1 l1) := ⟨_, rfl⟩
    refine AWp.joinP [(8, .lst (B.map encX)), (22, .bad)] ?_ ?_
    · refine ifA (fun h2 => ?_) (fun h2 => ?_)
      · have h2 : o1 = o := by simpa using h2
        have hB2 : B = l1 := by rw [hB]; simp [chA, Rx.op, Rx.subs, h2]
        rw [hB2]
        refine goD ?_
        exact .wk
      · have h2 : o1 ≠ o := by simpa using h2
        have hB2 : B = [.mk o1 s1 l1] := by rw [hB]; simp [chA, Rx.op, h2]
        rw [hB2]
        refine goD ?_
        rw [List.map_cons, List.map_nil, encX_mk]
        exact .wk
    rw [← hB] at hlb hBok hfin htk
    have hBo := hO B
    refine goD ?_
    refine keA [0, 4, 5, 11, 12, 13, 25, 26, 27] ?_
    refine AWp.loopH (J := fun m : Nat => m ≤ B.length ∧ (o = 7 → all1 (B.take m))) (fun m => [(5, .own 1 (chO A (B.take m)).length 0 (chO A (B.take m)).length), (27, .int m)]) (fun m => [⟨24, 3, [.agg [.int 0, str ByteArray.empty, .base (.slice none 0 0)]]⟩, xbl (chO A (B.take m))]) (fun m => B.length - m) 0 ⟨Nat.zero_le _, by simp [all1]⟩ ((Wk.trim' 2 rfl (by simp +decide only [go_sem, WkP]; (repeat' apply And.intro); all_goals first | trivial | exact .pu (.base _) | exact .ptr (by decide) | exact .own (by decide) | exact .pu (by simp) | exact .bad _)) (pubB (PuBl.cons (PuB_zX 0 _) (PuBl.cons (PuB_x A) .nil)))) ?_
    rintro m ⟨hm, hM⟩
    refine goD ?_
    refine ifA (fun h3 => ?_) (fun h3 => ?_)
    · have h3 := of_decide_eq_true h3
      have hm2 : m < B.length := by omega
      have hct := chO_take (out := A) hm2
      have hms := fun x => mem_take_s (x := x) hm2
      have hzo := hBok _ (List.getElem_mem hm2)
      have hA2 := chO_len (B.take m) A
      have hA3 : (B.take m).length ≤ B.length := by simp; omega
      have hft := fun h1 h2 => find_take hm2 h1 h2
      have i3 := containsFunc_ok (fid := 126) (caps := [.iptr (encX B[m]) 0]) (p := fun y => B[m] = y) (l := chO A (B.take m)) (by unfold maxLen; omega) (by simpa using Pu.iptr (Pu_Xc _)) fun y _ => chose_ok B[m] y hzo
      rcases hz : B[m] with ⟨o2, s2, l2⟩
      rw [hz] at hct hms hft i3
      generalize hA' : chO A (B.take m) = A' at *
      refine goC ?_
      refine ARun.q1 rfl rfl (ql_indexAddr_lst rfl rfl Try.underlying22 (by omega) (e := .agg [.int o2, str s2, .lst (l2.map encX)]) (by simp [hm2, hz, encX_mk]) (by kernel_rfl)) ?_
      refine goC ?_
      refine ifA (fun h4 => ?_) (fun h4 => ?_)
      · have h4 : o2 = 1 ∧ o = 7 := by simpa using h4
        rw [hfin _ h4.2 (hN h4.2) (hft (hM h4.2) h4.1), encX_mk]
        refine goC ?_
        exact ⟨[.agg [.int o2, str s2, .lst (l2.map encX)]], by kernel_rfl, .pu (Pu_aggX o2 s2 l2)⟩
      have h4 : ¬ (o2 = 1 ∧ o = 7) := by simpa using h4
      have hM2 : o = 7 → all1 (B.take (m + 1)) := fun ho x hx => by
        rcases hms x hx with h | rfl
        · exact hM ho x h
        · exact fun h => h4 ⟨h, ho⟩
      obtain ⟨q, hq, i3⟩ : ∃ q : Bool, (q = true ↔ .mk o2 s2 l2 ∈ A') ∧ Fn Try.prog 91 [.lst (A'.map encX), .clo 126 [.iptr (encX (.mk o2 s2 l2)) 0]] (.bool q) := by
        refine ⟨_, ?_, i3⟩
        refine Iff.trans (@decide_eq_true_iff _ (_)) ?_
        exact ⟨fun ⟨x, h1, h2⟩ => h2 ▸ h1, fun h => ⟨_, h, rfl⟩⟩
      rw [encX_mk] at i3
      have hdec1 : o2 ≠ 1 → .mk o2 s2 l2 ∉ A' → chO A' [.mk o2 s2 l2] = A' ++ [.mk o2 s2 l2] := fun h1 h2 => by
        rw [chO, if_pos ⟨h1, h2⟩, chO]
      have hdec2 : (o2 = 1 ∨ .mk o2 s2 l2 ∈ A') → chO A' [.mk o2 s2 l2] = A' := fun h => by
        rw [chO, if_neg (fun h2 => h.elim h2.1 h2.2), chO]
      refine goC ?_
      refine ARun.gl (v := .bool q) rfl rfl (by simp +decide only [go_sem] <;> rfl) (fun hg => ql_callM (args := [.lst (A'.map encX), .clo 126 [.iptr (.agg [.int o2, str s2, .lst (l2.map encX)]) 0]]) rfl (by simp +decide only [go_sem] <;> rfl) (by simp +decide only [go_sem, List.map, LendL]; exact ⟨.ownM (f := encX) (l := A') rfl rfl fun x _ c hc => Pu_Xc x c hc, .clo' (show LendL _ [_] [_] from ⟨.iptr rfl rfl rfl (show LendL _ [_, _, _] [_, _, _] from ⟨.pu (.base _), .pu (.base _), .pu (Pu_mapX _), trivial⟩), trivial⟩)⟩) (.base _) i3) ?_
      refine goC ?_
      refine ifA (fun h5 => ?_) (fun h5 => ?_)
      · have h5 : o2 ≠ 1 ∧ q = false := by simpa using h5
        have hd := hdec1 h5.1 (fun h => by rw [hq.2 h] at h5; cases h5.2)
        rw [hd] at hct
        refine goC ?_
        refine bslA Try.underlying22 sz24 ?_
        refine ARun.p1 rfl rfl (pl_appX (b := 1) (A := A') (B := [.mk o2 s2 l2]) (by simp +decide only [go_sem] <;> rfl) (by simp +decide only [go_sem, List.map, encX_mk] <;> rfl) rfl (by simp; omega)) ?_
        refine goC ?_
        rw [wrap_succ (by omega)]
        refine ⟨m + 1, ⟨by omega, hM2⟩, by omega, ?_⟩
        rw [hct]
        exact (Wk.trim' 2 rfl (by simp +decide only [go_sem, WkP]; (repeat' apply And.intro); all_goals first | trivial | exact .pu (.base _) | exact .ptr (by decide) | exact .own (by decide) | exact .pu (by simp) | exact .bad _)) (pubB (PuBl.cons (PuB_zX 0 _) (PuBl.cons (PuB_x (A' ++ [.mk o2 s2 l2])) .nil)))
      · have h5 : ¬ (o2 ≠ 1 ∧ q = false) := by simpa using h5
        have hd := hdec2 (by by_cases h6 : o2 = 1; exact .inl h6; exact .inr (hq.1 (by simpa using fun h => h5 ⟨h6, h⟩)))
        rw [hd] at hct
        refine goC ?_
        rw [wrap_succ (by omega)]
        refine ⟨m + 1, ⟨by omega, hM2⟩, by omega, ?_⟩
        rw [hct]
        exact (Wk.trim' 2 rfl (by simp +decide only [go_sem, WkP]; (repeat' apply And.intro); all_goals first | trivial | exact .pu (.base _) | exact .ptr (by decide) | exact .own (by decide) | exact .pu (by simp) | exact .bad _)) (pubB (PuBl.cons (PuB_zX 0 _) (PuBl.cons (PuB_x A') .nil)))
    have h3 := of_decide_eq_false h3
    obtain rfl : m = B.length := by omega
    rw [List.take_length] at hM ⊢
    refine goC ?_
    rw [wrap_succ (by omega)]
    refine ⟨k + 1, ⟨by omega, fun ho x hx => ?_⟩, by omega, ?_⟩
    · rw [htk] at hx
      rcases List.mem_append.1 hx with hx | hx
      · exact hN ho x hx
      · exact hM ho x hx
    · rw [htk, hBo]
      exact (Wk.trim' 2 rfl (by simp +decide only [go_sem, WkP]; (repeat' apply And.intro); all_goals first | trivial | exact .pu (.base _) | exact .ptr (by decide) | exact .own (by decide) | exact .pu (by simp) | exact .bad _)) (pubB (PuBl.cons (PuB_zX 0 _) (PuBl.cons (PuB_x (chO A B)) .nil)))
  have h1 := of_decide_eq_false h1
  obtain rfl : k = l.length := by omega
  rw [List.take_length] at hN ⊢
  have hR : chX o l = finX o 1 (chO [] (chL o l)) := by
    rw [chX]
    split
    · rename_i r hr
      split at hr
      · rename_i ho
        rw [List.find?_eq_none.2 (fun x hx => by have := hN ho x hx; simpa [isN] using this)] at hr
        cases hr
      · cases hr
    · rfl
  have hlb := chO_len (chL o l) []
  have hlc := Nat.le_trans (lenL_cnts _) (chL_cnt o l)
  rw [hR]
  generalize chO [] (chL o l) = A at *
  rcases A with _ | ⟨⟨o1, s1, l1⟩, A⟩
  · refine goD ?_
    refine ift_ ?_
    refine goC ?_
    refine bldA pl24 zero24 ?_
    refine goD ?_
    exact ⟨[.agg [.int 1, str ByteArray.empty, .base (.slice none 0 0)]], by kernel_rfl, Pub.agg' (show PubL _ 0 [_, _, _] [_, _, _] from ⟨.pu (.base _), .pu (.base _), .nilS, trivial⟩)⟩
  rcases A with _ | ⟨y, A⟩
  · refine goD ?_
    refine iff_ ?_
    refine goD ?_
    refine ift_ ?_
    refine goC ?_
    refine ARun.q1 rfl rfl (ql_indexAddr_own (by simp +decide only [go_sem] <;> rfl) rfl Try.underlying22 (by rfl) (by rfl) (by omega) (by omega) (by kernel_rfl)) ?_
    refine ARun.q1 rfl rfl (v := .agg [.int o1, str s1, .lst (l1.map encX)]) (ql_load_own (l := [Rx.mk o1 s1 l1]) (f := encX) rxN 0 (by simp +decide only [go_sem] <;> rfl) (by rfl) rfl rfl (by simp) (by simp only [nth, Int.toNat_zero, List.getElem?_cons_zero, Option.getD_some, encX_mk]; kernel_rfl)) ?_
    refine goC ?_
    rw [show finX o 1 [Rx.mk o1 s1 l1] = .mk o1 s1 l1 from rfl, encX_mk]
    exact ⟨[.agg [.int o1, str s1, .lst (l1.map encX)]], by kernel_rfl, .pu (Pu_aggX o1 s1 l1)⟩
  · simp only [List.length_nil] at hlb
    have i1 := group_ok o (.mk o1 s1 l1 :: y :: A) (by omega)
    refine goD ?_
    refine iffd_ rfl (by omega) ?_
    refine goD ?_
    refine iffd_ rfl (by omega) ?_
    refine AWp.weaken (Wk.trim' (E2 := [(0, .int o), (4, .ptr 0 1 0 0), (5, .lst ((.mk o1 s1 l1 :: y :: A).map encX))]) 1 rfl (by simp +decide only [go_sem, WkP]; exact ⟨.pu (.base _), .ptr (by decide), Pub.ownM (f := encX) (l := .mk o1 s1 l1 :: y :: A) (Nat.le_refl _) rfl (by simp) (fun x _ c hc => Pu_Xc x c hc)⟩) (pubB (PuBl.cons (PuB_zX 0 _) .nil))) ?_
    rw [show finX o 1 (Rx.mk o1 s1 l1 :: y :: A) = grp o (Rx.mk o1 s1 l1 :: y :: A) from rfl]
    generalize (Rx.mk o1 s1 l1 :: y :: A) = L at *
    rcases hg : grp o L with ⟨o2, s2, l2⟩
    rw [hg, encX_mk] at i1
    rw [encX_mk]
    refine goD ?_
    refine callA (i1) ?_
    refine goD ?_
    exact ⟨[.agg [.int o2, str s2, .lst (l2.map encX)]], by kernel_rfl, .pu (Pu_aggX o2 s2 l2)⟩
end Go.Ab
