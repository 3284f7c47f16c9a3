/- Part of the proof. -/
import Derived.Lib.Bytealg
import Derived.Test.YtjfahhbobiiphaaXF
import Derived.Test.YtjfahhbobiiphaaAbJ
import Derived.Test.YtjfahhbobiiphaaXI
import Derived.Test.YtjfahhbobiiphaaXJ
set_option linter.unusedSimpArgs false
set_option linter.unusedVariables false
set_option maxHeartbeats 4000000
namespace Go.Ab
open Go Go.Ab Go.Proofs Go.Ab.Ty


abbrev ixB (s : ByteArray) (c : UInt8) : Int := Lib.indexByte s.data.toList c
theorem ixB_ge (s : ByteArray) (c : UInt8) : 0 ≤ ixB s c ↔ isIn s c := by
  have h1 : ∀ l : List UInt8, 0 ≤ Lib.indexByte l c ↔ c ∈ l := by
    intro l
    induction l with
    | nil => simp [Lib.indexByte]
    | cons b l ih =>
      have := Lib.indexByte_ge l c
      unfold Lib.indexByte
      by_cases h : b = c
      · subst h; simp
      · simp only [beq_iff_eq, h, if_false, List.mem_cons, Ne.symm h, false_or, ← ih]
        split <;> omega
  rw [ixB, h1, isIn, List.mem_iff_getElem]
  constructor
  · rintro ⟨i, hi, h⟩
    exact ⟨i, by simpa using hi, h⟩
  · rintro ⟨i, hi, h⟩
    exact ⟨i, by simpa using hi, h⟩
theorem ql_ix {H : List ABlk} {ρ : Operand → AV} {x y : Operand} {ts : Array TypeId} {s : ByteArray} {c : UInt8} (hx : ρ x = str s) (hy : ρ y = chr c) (hf : ρ (.func 144) = .clo 144 []) :
    QL Try.prog H ρ (.call { callee := .value (.func 144), args := #[x, y], argTypes := ts }) (.int (ixB s c)) := by
  refine ql_extern (e := Extern.BytealgIndexByte.indexByte) Try.func144 (by kernel_rfl) (by kernel_rfl) (by kernel_rfl) (by kernel_rfl) rfl hf fun w O ι a h => ?_
  have h1 := h x (by simp)
  have h2 := h y (by simp)
  rw [hx] at h1
  rw [hy] at h2
  have h1 := h1.base_inv
  have h2 := h2.base_inv
  refine ⟨_, ?_, .base _⟩
  have hc : (((c.toNat : Nat) : Int).toNat.toUInt8) = c := by simp
  have := Lib.run_indexByteString (P := Try.prog) s c.toNat w
  rw [hc] at this
  simpa [h1, h2] using this
theorem stringslite_ok (s : ByteArray) (c : UInt8) : Fn Try.prog 124 [str s, chr c] (.int (ixB s c)) := by
  refine Fn.intro' [(0, str s), (1, chr c)] 2 8 Try.func124 (by kernel_rfl) rfl rfl rfl rfl rfl ?_
  refine goB ?_
  refine ARun.q1 rfl rfl (ql_ix (by simp +decide only [go_sem] <;> rfl) (by simp +decide only [go_sem] <;> rfl) rfl) ?_
  refine goB ?_
  exact Ret.data rfl rfl (.base _)
theorem indexByte_ok (s : ByteArray) (c : UInt8) : Fn Try.prog 97 [str s, chr c] (.int (ixB s c)) := by
  refine Fn.intro' [(0, str s), (1, chr c)] 2 8 Try.func97 (by kernel_rfl) rfl rfl rfl rfl rfl ?_
  refine goB ?_
  refine callA (stringslite_ok s c) ?_
  refine goB ?_
  exact Ret.data rfl rfl (.base _)
end Go.Ab
set_option maxHeartbeats 4000000
namespace Go.Ab
open Go Go.Ab Go.Proofs Go.Ab.Ty

def noR : Rl := fun _ _ => False
def orR (A B : Rl) : Rl := fun i j => A i j ∨ B i j
def andR (A B : Rl) : Rl := fun i j => A i j ∧ B i j
def stepR (o : Int) (A B : Rl) : Rl := if o = 4 then comp A B else if o = 5 then orR A B else andR A B
def foldR (o : Int) : List Rl → Rl
  | [] => noR
  | R :: l => l.foldl (stepR o) R
def opM (s : ByteArray) (o : Int) (S : ByteArray) (rs : List Rl) : Rl := fun i j => i ≤ j ∧ j < s.size + 1 ∧
  ((o = 2 ∧ i = j) ∨ (o = 3 ∧ j = i + 1 ∧ ∃ h : i < s.size, isIn S s[i]) ∨ ((o = 4 ∨ o = 5 ∨ o = 7) ∧ foldR o rs i j) ∨ (o = 6 ∧ Star (rs.headD noR) i j) ∨ (o = 8 ∧ ¬ rs.headD noR i j))
mutual
def M (s : ByteArray) : Rx → Rl
  | .mk o S l => opM s o S (Ms s l)
def Ms (s : ByteArray) : List Rx → List Rl
  | [] => []
  | r :: l => M s r :: Ms s l
end
theorem Ms_map (s : ByteArray) : ∀ l : List Rx, Ms s l = l.map (M s)
  | [] => rfl
  | r :: l => by rw [Ms, Ms_map s l]; rfl
theorem M_mk (s : ByteArray) (o : Int) (S : ByteArray) (l : List Rx) : M s (.mk o S l) = opM s o S (l.map (M s)) := by rw [M, Ms_map]
theorem M_fwd (s : ByteArray) (r : Rx) : Fwd (s.size + 1) (M s r) := by
  obtain ⟨o, S, l⟩ := r
  rw [M_mk]
  exact fun i j h => ⟨h.1, h.2.1⟩
theorem stepR_fwd {N : Nat} {o : Int} {A B : Rl} (ha : Fwd N A) (hb : Fwd N B) : Fwd N (stepR o A B) := by
  unfold stepR
  split
  · exact ha.comp hb
  split
  · exact fun i j h => h.elim (ha i j) (hb i j)
  · exact fun i j h => ha i j h.1
theorem foldl_fwd {N : Nat} {o : Int} {l : List Rl} : ∀ {A : Rl}, Fwd N A → (∀ R ∈ l, Fwd N R) → Fwd N (l.foldl (stepR o) A) := by
  induction l with
  | nil => intro A ha _; exact ha
  | cons R l ih => intro A ha h; exact ih (stepR_fwd ha (h R (by simp))) fun x hx => h x (by simp [hx])
theorem join_or {N : Nat} {A B : Rl} (ha : Fwd N A) (hb : Fwd N B) : tabD N (joinT (fun x y => x || y) N (tb A) (tb B)) = tabD N (tb (orR A B)) := tabD_congr fun i j hi hj => by
  have h1 := ha i j; have h2 := hb i j
  simp only [joinT, tb, orR, hi, hj]
  by_cases x : A i j <;> by_cases y : B i j <;> simp [x, y] <;> grind
theorem join_and {N : Nat} {A B : Rl} (ha : Fwd N A) (hb : Fwd N B) : tabD N (joinT (fun x y => x && y) N (tb A) (tb B)) = tabD N (tb (andR A B)) := tabD_congr fun i j hi hj => by
  have h1 := ha i j; have h2 := hb i j
  simp only [joinT, tb, andR, hi, hj]
  by_cases x : A i j <;> by_cases y : B i j <;> simp [x, y] <;> grind
theorem tabD_iff {N : Nat} {R S : Rl} (h : ∀ i j, i < N → j < N → (R i j ↔ S i j)) : tabD N (tb R) = tabD N (tb S) := tabD_congr fun i j hi hj => by simp [tb, h i j hi hj]
section
variable {s S : ByteArray} {l : List Rx}
theorem M1 {o : Int} (h : o ≠ 2 ∧ o ≠ 3 ∧ o ≠ 4 ∧ o ≠ 5 ∧ o ≠ 6 ∧ o ≠ 7 ∧ o ≠ 8) : tabD (s.size + 1) (fun _ _ => false) = tabD (s.size + 1) (tb (M s (.mk o S l))) := tabD_congr fun i j _ _ => by
  simp only [M_mk, tb, opM]
  symm; rw [decide_eq_false_iff_not]
  rintro ⟨_, _, h2⟩
  omega
theorem M2 : tabD (s.size + 1) (tb fun i j => i = j) = tabD (s.size + 1) (tb (M s (.mk 2 S l))) := tabD_iff fun i j hi hj => by
  rw [M_mk]; unfold opM
  constructor
  · rintro rfl; exact ⟨Nat.le_refl _, hi, .inl ⟨rfl, rfl⟩⟩
  · rintro ⟨_, _, h⟩; omega
theorem M3 : tabD (s.size + 1) (tb fun i j => j = i + 1 ∧ ∃ h : i < s.size, isIn S s[i]) = tabD (s.size + 1) (tb (M s (.mk 3 S l))) := tabD_iff fun i j hi hj => by
  rw [M_mk]; unfold opM
  constructor
  · intro h; exact ⟨by omega, hj, .inr (.inl ⟨rfl, h.1, h.2⟩)⟩
  · rintro ⟨_, _, h | h | h | h | h⟩
    · omega
    · exact ⟨h.2.1, h.2.2⟩
    · omega
    · omega
    · omega
theorem M6 (x : Rx) : tabD (s.size + 1) (tb (starN (s.size + 1) (M s x))) = tabD (s.size + 1) (tb (M s (.mk 6 S [x]))) := tabD_iff fun i j hi hj => by
  rw [M_mk]; unfold opM starN
  constructor
  · intro h; exact ⟨h.2.le (M_fwd s x), hj, .inr (.inr (.inr (.inl ⟨rfl, h.2⟩)))⟩
  · rintro ⟨_, _, h | h | h | h | h⟩
    · omega
    · omega
    · omega
    · exact ⟨hj, h.2⟩
    · omega
theorem M8 (x : Rx) : tabD (s.size + 1) (joinT (fun x _ => !x) (s.size + 1) (tb (M s x)) (tb (M s x))) = tabD (s.size + 1) (tb (M s (.mk 8 S [x]))) := tabD_congr fun i j hi hj => by
  rw [M_mk]
  have : opM s 8 S [M s x] i j ↔ i ≤ j ∧ ¬ M s x i j := by
    unfold opM
    constructor
    · rintro ⟨h0, _, h | h | h | h | h⟩
      · omega
      · omega
      · omega
      · omega
      · exact ⟨h0, h.2⟩
    · intro h; exact ⟨h.1, hj, .inr (.inr (.inr (.inr ⟨rfl, h.2⟩)))⟩
  simp only [tb, List.map_cons, List.map_nil, joinT, hi, hj]
  by_cases h1 : i ≤ j <;> by_cases h2 : M s x i j <;> simp [h1, h2, this]
theorem M457 {o : Int} (ho : o = 4 ∨ o = 5 ∨ o = 7) (x : Rx) (l : List Rx) : tabD (s.size + 1) (tb ((l.map (M s)).foldl (stepR o) (M s x))) = tabD (s.size + 1) (tb (M s (.mk o S (x :: l)))) := tabD_iff fun i j hi hj => by
  rw [M_mk]; unfold opM
  have hf := foldl_fwd (o := o) (l := l.map (M s)) (M_fwd s x) (fun R hR => by obtain ⟨y, _, rfl⟩ := List.mem_map.1 hR; exact M_fwd s y) i j
  constructor
  · intro h; exact ⟨(hf h).1, hj, .inr (.inr (.inl ⟨ho, h⟩))⟩
  · rintro ⟨_, _, h | h | h | h | h⟩
    · omega
    · omega
    · exact h.2
    · omega
    · omega
end
noncomputable def tabM (s : ByteArray) (r : Rx) : AV := tabD (s.size + 1) (tb (M s r))
theorem tabM_cells (s : ByteArray) (r : Rx) : (tabM s r).cells = [tabM s r] := rfl
attribute [go_sem] tabM_cells
@[simp] theorem Pu_tabM (s : ByteArray) (r : Rx) : Pu (tabM s r) := Pu_tabD _ _
@[simp] theorem Pu_mapTab (s : ByteArray) (l : List Rx) : Pu (.lst (l.map (tabM s))) := .lst fun e he c hc => by
  obtain ⟨x, _, rfl⟩ := List.mem_map.1 he
  simp [tabM_cells] at hc; subst hc; exact Pu_tabM s x
theorem PuBlT (s : ByteArray) (l : List Rx) : ∀ e ∈ (⟨68, 1, l.map (tabM s)⟩ : ABlk).es, ∀ c ∈ e.cells, Pu c := fun e he c hc => by
  obtain ⟨x, _, rfl⟩ := List.mem_map.1 he
  simp [tabM_cells] at hc; subst hc; exact Pu_tabM s x
theorem PuBlXT (o : Int) (S : ByteArray) (l : List Rx) (s : ByteArray) (k : List Rx) : PuBl [⟨24, 3, [.agg [.int o, str S, .lst (l.map encX)]]⟩, ⟨68, 1, k.map (tabM s)⟩] := .cons (fun e he c hc => by
  simp only [List.mem_singleton] at he
  subst he
  have := Pu_Xc (.mk o S l)
  rw [encX_mk] at this
  exact this c hc) (.cons (PuBlT s k) .nil)
theorem tab_row01 {b : ABlk} {N : Nat} {f : Tb} {i : Nat} (h : i < N) : (b :: tabH 1 N f)[2 + i]? = some (rowB N (f i)) := tab_row0 (HC := [b]) rfl h
theorem tab_set01 {b : ABlk} {N : Nat} {f : Tb} {i j : Nat} {v : Bool} (h : i < N) : (b :: tabH 1 N f).set (2 + i) (rowB N (updR (f i) j v)) = b :: tabH 1 N (updT f i j v) := tab_set0 (HC := [b]) rfl h
theorem Pub_tab1 {b : ABlk} {N : Nat} {f : Tb} : Pub (b :: tabH 1 N f) 0 (.own 1 N 0 N) (tabD N f) := PubR_tab (by rfl) (fun i hi => tab_row01 hi) (fun b _ _ => pre_ge (by omega))
def diag (k : Nat) : Rl := fun i j => i = j ∧ i < k
theorem diag_0 : (fun _ _ => false) = tb (diag 0) := by funext a c; simp [tb, diag]
theorem diag_s (k : Nat) : updT (tb (diag k)) k k true = tb (diag (k + 1)) := tb_upd (by simp [diag]) fun a c h => by unfold diag; grind
def oneR (s S : ByteArray) (k : Nat) : Rl := fun i j => j = i + 1 ∧ i < k ∧ ∃ h : i < s.size, isIn S s[i]
theorem oneR_0 (s S : ByteArray) : (fun _ _ => false) = tb (oneR s S 0) := by funext a c; simp [tb, oneR]
theorem oneR_s {s S : ByteArray} {k : Nat} (hk : k < s.size) {v : Bool} (hv : v = true ↔ isIn S s[k]) : updT (tb (oneR s S k)) k (k + 1) v = tb (oneR s S (k + 1)) := tb_upd (by simp [oneR, hv, hk]) fun a c h => by unfold oneR; grind
theorem parts_ok (r : Rx) (hok : r.ok) (hwf : r.wf) (s : ByteArray) (hs : s.size ≤ 400) : Fn Try.prog 89 [encX r, str s] (tabM s r) := by
  induction r using Rx.ind with
  | h o S l ih =>
  obtain ⟨hS, hn, hl⟩ := ok_sub hok
  obtain ⟨hno, hlw⟩ := wf_sub.1 hwf
  have hl8 : l.length ≤ 8 := by unfold nodeOk at hno; split at hno <;> omega
  have hnone := none_ok s.size (by omega)
  obtain ⟨N, hN⟩ : ∃ N, N = s.size + 1 := ⟨_, rfl⟩
  unfold maxLen at hS hn
  rw [encX_mk]
  refine Fn.intro' [(0, .agg [.int o, str S, .lst (l.map encX)]), (1, str s)] 2 114 Try.func89 (by kernel_rfl) rfl rfl rfl rfl rfl ?_
  refine goA ?_
  refine keA [1, 2, 4, 5, 14, 15, 16] ?_
  refine AWp.loop (J := fun k : Nat => k ≤ l.length) (fun k => ⟨[(5, .own 1 k 0 k), (16, .int k), (1, str s), (2, .ptr 0 1 0 0), (4, .base (.slice none 0 0)), (14, .lst (l.map encX)), (15, .int l.length)], [⟨24, 3, [.agg [.int o, str S, .lst (l.map encX)]]⟩, ⟨68, 1, (l.take k).map (tabM s)⟩]⟩) (fun k => l.length - k) 0 (Nat.zero_le _) (.nil 68 1 (by simp [List.forall_mem_cons, lk, Le.refl])) ?_
  intro k hk
  refine goA ?_
  refine ifA (fun hd => ?_) (fun hd => ?_)
  · simp at hd
    refine goA ?_
    have hm : l[k] ∈ l := List.getElem_mem _
    have ih1 := ih _ hm (hl _ hm) (hlw _ hm)
    rcases hx : l[k] with ⟨o1, s1, l1⟩
    rw [hx, encX_mk] at ih1
    refine ARun.q1 rfl rfl (ql_indexAddr_lst rfl rfl Try.underlying22 (by omega) (e := .agg [.int o1, str s1, .lst (l1.map encX)]) (by simp [hd, hx, encX_mk]) (by kernel_rfl)) ?_
    refine goA ?_
    refine callA (ih1) ?_
    refine goA ?_
    refine bslA Try.underlying141 sz68 ?_
    refine goA ?_
    have hH : (l.take (k + 1)).map (tabM s) = (l.take k).map (tabM s) ++ [tabM s (.mk o1 s1 l1)] := by rw [List.take_succ_eq_append_getElem hd, hx]; simp
    refine ARun.p1 rfl rfl (pl_append (b := 1) (tot := k) (es := [tabM s (.mk o1 s1 l1)]) (by simp +decide only [go_sem] <;> rfl) (by simp +decide only [go_sem] <;> rfl) (by simp +decide only [go_sem] <;> rfl) (by simp; omega) Try.underlying141 el68 rfl rfl (by simp) (fun e he => by rw [List.mem_singleton] at he; subst he; exact ⟨rfl, rfl⟩) (by simp; omega) (by simp; omega)) ?_
    refine goA ?_
    rw [wrap_succ (by omega)]
    refine ⟨k + 1, by omega, by omega, ?_⟩
    rw [hH]
    exact (Wk.trim' 2 rfl (by simp +decide only [go_sem, WkP]; (repeat' apply And.intro); all_goals first | trivial | exact .pu (.base _) | exact .ptr (by decide) | exact .own (by decide) | exact .pu (by simp) | exact .bad _)) (by rw [← hH]; exact pubB (PuBlXT o S l s _))
  simp at hd
  obtain rfl : k = l.length := by omega
  rw [List.take_length]
  refine AWp.weaken (s2 := ⟨[(1, str s), (2, .ptr 0 1 0 0), (4, .base (.slice none 0 0)), (5, .lst (l.map (tabM s)))], [⟨24, 3, [.agg [.int o, str S, .lst (l.map encX)]]⟩]⟩) (Wk.trim' 1 rfl (by simp +decide only [go_sem, WkP]; exact ⟨.pu (.base _), .ptr (by decide), .pu (.base _), Pub.ownM (by decide) rfl rfl fun x _ c hc => by simp [tabM_cells] at hc; subst hc; exact Pu_tabM s x⟩) (pubB (PuBlX o S l))) ?_
  refine goA ?_
  refine zp rfl rfl (pl_callTab hnone rfl (by simp +decide only [go_sem] <;> rfl) (by simp +decide only [go_sem, List.map]) (by simp)) ?_
  simp only [List.length_cons, List.length_nil, Nat.zero_add, List.cons_append, List.nil_append]
  refine goA ?_
  rw [← hN]
  refine ifA (fun g2 => ?_) (fun g2 => ?_)
  · simp at g2
    subst g2
    refine goA ?_
    have hfin : tabM s (.mk 2 S l) = tabD N (tb (diag N)) := by
      subst hN; rw [tabM, ← M2]; exact tabD_iff fun i j hi hj => by unfold diag; omega
    rw [diag_0, hfin]
    refine keA [8, 35, 36] ?_
    refine AWp.loopH (J := fun i : Nat => i ≤ N) (fun i => [(36, .int i), (9, .bad)]) (fun i => ⟨24, 3, [.agg [.int 2, str S, .lst (l.map encX)]]⟩ :: tabH 1 N (tb (diag i))) (fun i => N - i) 0 (Nat.zero_le _) .wk ?_
    intro i hi
    refine goA ?_
    refine ifA (fun hd2 => ?_) (fun hd2 => ?_)
    · simp at hd2
      refine goA ?_
      refine ARun.q1 rfl rfl (ql_ownRowAddr i rfl rfl (by rfl) Try.underlying68 ⟨rfl, hd2⟩ (by kernel_rfl)) ?_
      refine goA ?_
      refine ARun.q1 rfl rfl (ql_ownRow rfl (by rfl) hd2 agg71) ?_
      refine goA ?_
      refine ARun.q1 rfl rfl (ql_ownCellAddr i rfl rfl (tab_row01 hd2) Try.underlying71 ⟨rfl, hd2⟩ (by kernel_rfl)) ?_
      refine zp rfl rfl (pl_ownCell true (by simp +decide only [go_sem] <;> rfl) (by simp +decide only [go_sem] <;> rfl) (tab_row01 hd2) hd2 (by kernel_rfl)) ?_
      rw [tab_set01 hd2, diag_s]
      refine goA ?_
      rw [wrap_succ (by omega)]
      exact ⟨i + 1, by omega, by omega, .wk⟩
    simp at hd2
    obtain rfl : i = N := by omega
    refine goA ?_
    exact Ret.pub rfl Pub_tab1
  simp at g2
  refine goA ?_
  refine ifA (fun g3 => ?_) (fun g3 => ?_)
  · simp at g3
    subst g3
    refine goA ?_
    have hfin : tabM s (.mk 3 S l) = tabD N (tb (oneR s S s.size)) := by
      subst hN; rw [tabM, ← M3]; exact tabD_iff fun i j hi hj => by unfold oneR; grind
    rw [oneR_0 s S, hfin]
    refine keA [1, 2, 8, 49, 50] ?_
    refine AWp.loopH (J := fun i : Nat => i ≤ s.size) (fun i => [(50, .int i), (10, .bad)]) (fun i => ⟨24, 3, [.agg [.int 3, str S, .lst (l.map encX)]]⟩ :: tabH 1 N (tb (oneR s S i))) (fun i => s.size - i) 0 (Nat.zero_le _) .wk ?_
    intro i hi
    refine goA ?_
    refine ifA (fun hd2 => ?_) (fun hd2 => ?_)
    · simp at hd2
      refine goA ?_
      have hiN : i < N := by omega
      have hiN2 : i + 1 < N := by omega
      refine drA (k := 13) follows (hr := ?_)
      refine goA ?_
      refine ARun.q1 rfl rfl (ql_ownRowAddr i rfl rfl (by rfl) Try.underlying68 ⟨rfl, hiN⟩ (by kernel_rfl)) ?_
      refine goA ?_
      refine ARun.q1 rfl rfl (ql_ownRow rfl (by rfl) hiN agg71) ?_
      refine goA ?_
      rw [wrap_succ (by omega)]
      refine ARun.q1 rfl rfl (ql_index_str rfl rfl Try.underlying9 (by omega) (bs_get (i := i) (by omega))) ?_
      refine goA ?_
      refine callA (indexByte_ok S s[i]) ?_
      refine goA ?_
      refine ARun.q1 rfl rfl (ql_ownCellAddr (i + 1) rfl rfl (tab_row01 hiN) Try.underlying71 ⟨by omega, hiN2⟩ (by kernel_rfl)) ?_
      refine zp rfl rfl (pl_ownCell (decide (ixB S s[i] ≥ 0)) (by simp +decide only [go_sem] <;> rfl) (by simp +decide only [go_sem] <;> rfl) (tab_row01 hiN) hiN2 (by kernel_rfl)) ?_
      rw [tab_set01 hiN, oneR_s hd2 (by rw [decide_eq_true_iff]; exact ixB_ge S s[i])]
      refine goA ?_
      rw [wrap_succ (by omega)]
      exact ⟨i + 1, by omega, by omega, .wk⟩
    simp at hd2
    obtain rfl : i = s.size := by omega
    refine goA ?_
    exact Ret.pub rfl Pub_tab1
  simp at g3
  refine goA ?_
  refine ifA (fun g6 => ?_) (fun g6 => ?_)
  · simp at g6
    subst g6
    obtain ⟨x, rfl⟩ : ∃ x, l = [x] := List.length_eq_one_iff.1 (by unfold nodeOk at hno; rw [if_neg (by omega)] at hno; omega)
    have hrep : Fn Try.prog 116 [tabM s x] (tabM s (.mk 6 S [x])) := by
      have := repeat_ok (N := s.size + 1) (by omega) (M_fwd s x)
      rwa [M6 (S := S)] at this
    refine goA ?_
    refine ARun.q1 rfl rfl (ql_indexAddr_lst rfl rfl Try.underlying141 (by omega) (e := tabM s x) (by simp) (by kernel_rfl)) ?_
    refine goA ?_
    refine callA (hrep) ?_
    refine goA ?_
    exact Ret.data rfl rfl (Pu_tabM _ _)
  simp at g6
  refine goA ?_
  refine ifA (fun g8 => ?_) (fun g8 => ?_)
  · simp at g8
    subst g8
    obtain ⟨x, rfl⟩ : ∃ x, l = [x] := List.length_eq_one_iff.1 (by unfold nodeOk at hno; rw [if_neg (by omega)] at hno; omega)
    have hjn : Fn Try.prog 117 [tabM s x, tabM s x, .clo 118 []] (tabM s (.mk 8 S [x])) := by
      have := join_ok (N := s.size + 1) (by omega) (fun x _ => !x) not_ok (tb (M s x)) (tb (M s x))
      rwa [M8 (S := S)] at this
    refine goA ?_
    refine drA (k := 8) follows (hr := ?_)
    refine goA ?_
    refine ARun.q1 rfl rfl (ql_indexAddr_lst rfl rfl Try.underlying141 (by omega) (e := tabM s x) (by simp) (by kernel_rfl)) ?_
    refine goA ?_
    refine ARun.q1 rfl rfl (ql_indexAddr_lst rfl rfl Try.underlying141 (by omega) (e := tabM s x) (by simp) (by kernel_rfl)) ?_
    refine goA ?_
    refine ARun.q1 rfl rfl (ql_callC hjn rfl (by simp +decide only [go_sem] <;> rfl) (by simp +decide only [go_sem, List.map]) (by simpa using Pu.clo (by simp))) ?_
    refine goA ?_
    exact Ret.data rfl rfl (Pu_tabM _ _)
  simp at g8
  refine goA ?_
  refine keA [2, 5, 8, 31, 83] ?_
  refine AWp.joinP [(83, .bool (decide (o = 4 ∨ o = 5 ∨ o = 7)))] ?_ ?_
  · refine ifA (fun ho => ?_) (fun ho => ?_)
    · refine goA ?_
      exact .env' (by simp +decide only [go_sem]; simp at ho; simp [ho, Le.refl])
    refine goA ?_
    refine ifA (fun ho2 => ?_) (fun ho2 => ?_)
    · refine goA ?_
      exact .env' (by simp +decide only [go_sem]; simp at ho ho2; simp [ho, ho2, Le.refl])
    refine goA ?_
    exact .env' (by simp +decide only [go_sem]; simp at ho ho2; simp [ho, ho2, Le.refl])
  refine goA ?_
  refine ifA (fun g4 => ?_) (fun g4 => ?_)
  · simp at g4
    obtain ⟨x, l, rfl⟩ : ∃ x l', l = x :: l' := by
      cases l with
      | nil => unfold nodeOk at hno; rw [if_neg g3] at hno; simp at hno; omega
      | cons x l' => exact ⟨x, l', rfl⟩
    have hl9 : l.length ≤ 8 := by simp at hl8; omega
    have hfol : ∀ (k : Nat) (hk : k < l.length), o = 4 → Fn Try.prog 119 [tabD N (tb (((l.take k).map (M s)).foldl (stepR o) (M s x))), tabM s l[k]] (tabD N (tb (((l.take (k + 1)).map (M s)).foldl (stepR o) (M s x)))) := fun k hk e => by
      have hF := foldl_fwd (o := o) (l := (l.take k).map (M s)) (M_fwd s x) (fun R hR => by obtain ⟨y, _, rfl⟩ := List.mem_map.1 hR; exact M_fwd s y)
      have := follow_ok (N := s.size + 1) (by omega) hF (M_fwd s l[k])
      subst hN e
      rw [List.take_succ_eq_append_getElem hk, List.map_append, List.foldl_append]
      exact this
    have hjor : ∀ (k : Nat) (hk : k < l.length), o = 5 → Fn Try.prog 117 [tabD N (tb (((l.take k).map (M s)).foldl (stepR o) (M s x))), tabM s l[k], .clo 120 []] (tabD N (tb (((l.take (k + 1)).map (M s)).foldl (stepR o) (M s x)))) := fun k hk e => by
      have hF := foldl_fwd (o := o) (l := (l.take k).map (M s)) (M_fwd s x) (fun R hR => by obtain ⟨y, _, rfl⟩ := List.mem_map.1 hR; exact M_fwd s y)
      have := join_ok (N := s.size + 1) (by omega) (fun x y => x || y) or_ok (tb (((l.take k).map (M s)).foldl (stepR o) (M s x))) (tb (M s l[k]))
      rw [join_or hF (M_fwd s l[k])] at this
      subst hN e
      rw [List.take_succ_eq_append_getElem hk, List.map_append, List.foldl_append]
      exact this
    have hjand : ∀ (k : Nat) (hk : k < l.length), o = 7 → Fn Try.prog 117 [tabD N (tb (((l.take k).map (M s)).foldl (stepR o) (M s x))), tabM s l[k], .clo 121 []] (tabD N (tb (((l.take (k + 1)).map (M s)).foldl (stepR o) (M s x)))) := fun k hk e => by
      have hF := foldl_fwd (o := o) (l := (l.take k).map (M s)) (M_fwd s x) (fun R hR => by obtain ⟨y, _, rfl⟩ := List.mem_map.1 hR; exact M_fwd s y)
      have := join_ok (N := s.size + 1) (by omega) (fun x y => x && y) and_ok (tb (((l.take k).map (M s)).foldl (stepR o) (M s x))) (tb (M s l[k]))
      rw [join_and hF (M_fwd s l[k])] at this
      subst hN e
      rw [List.take_succ_eq_append_getElem hk, List.map_append, List.foldl_append]
      exact this
    refine goA ?_
    refine ARun.q1 rfl rfl (ql_indexAddr_lst rfl rfl Try.underlying141 (by omega) (e := tabM s x) (by simp) (by kernel_rfl)) ?_
    refine goA ?_
    refine ARun.q1 rfl rfl (ql_slice_suf (l := x :: l) (f := tabM s) (by simp +decide only [go_sem] <;> rfl) (by simp +decide only [go_sem] <;> rfl) Try.underlying141 (by omega) (by simp) sz68 (fun e => rfl)) ?_
    simp only [show (1 : Int).toNat = 1 from rfl, List.drop_succ_cons, List.drop_zero]
    refine goA ?_
    refine keA [2, 8, 91, 92, 93] ?_
    refine AWp.loopP (J := fun k : Nat => k ≤ l.length) (fun k => [(8, tabD N (tb (((l.take k).map (M s)).foldl (stepR o) (M s x)))), (93, .int k), (12, .bad)]) (fun k => l.length - k) 0 (Nat.zero_le _) (.env' (by simp +decide only [go_sem]; subst hN; simp [Le.refl, tabM])) ?_
    intro k hk
    refine goA ?_
    refine ifA (fun hd2 => ?_) (fun hd2 => ?_)
    · simp at hd2
      refine goA ?_
      refine ARun.q1 rfl rfl (ql_indexAddr_lst rfl rfl Try.underlying141 (by omega) (e := tabM s l[k]) (by simp [hd2]) (by kernel_rfl)) ?_
      refine goA ?_
      refine ifA (fun h4 => ?_) (fun h4 => ?_)
      · simp at h4
        refine goA ?_
        refine callA (hfol k hd2 h4) ?_
        refine goA ?_
        rw [wrap_succ (by omega)]
        exact ⟨k + 1, by omega, by omega, .wk⟩
      simp at h4
      refine goA ?_
      refine ifA (fun h5 => ?_) (fun h5 => ?_)
      · simp at h5
        refine goA ?_
        refine ARun.q1 rfl rfl (ql_callC (hjor k hd2 h5) rfl (by simp +decide only [go_sem] <;> rfl) (by simp +decide only [go_sem, List.map]) (by simpa using Pu.clo (by simp))) ?_
        refine goA ?_
        rw [wrap_succ (by omega)]
        exact ⟨k + 1, by omega, by omega, .wk⟩
      simp at h5
      refine goA ?_
      refine ARun.q1 rfl rfl (ql_callC (hjand k hd2 (by omega)) rfl (by simp +decide only [go_sem] <;> rfl) (by simp +decide only [go_sem, List.map]) (by simpa using Pu.clo (by simp))) ?_
      refine goA ?_
      rw [wrap_succ (by omega)]
      exact ⟨k + 1, by omega, by omega, .wk⟩
    simp at hd2
    obtain rfl : k = l.length := by omega
    refine goA ?_
    exact Ret.data rfl (by rw [List.take_length]; subst hN; exact M457 g4 x l) (Pu_tabM _ _)
  simp at g4
  refine goA ?_
  have hfin : tabM s (.mk o S l) = tabD N fun _ _ => false := by
    subst hN; rw [tabM, ← M1 (by omega)]
  rw [hfin]
  exact Ret.pub rfl Pub_tab1
end Go.Ab
