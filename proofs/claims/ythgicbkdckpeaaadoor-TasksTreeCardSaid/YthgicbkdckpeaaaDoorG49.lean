/- Part of the proof. -/
import Derived.Laws.StructEq
import Derived.Test.YthgicbkdckpeaaaDoorCards
import Derived.Test.YthgicbkdckpeaaaDoorTie
import Derived.WalkKit
import Derived.ProofKit
import Derived.OpenShut
import Derived.Deep.DeepHandedRow
import Derived.Lib.LaidTab
import Derived.Lib.LaidU8
import Derived.Test.YthgicbkdckpeaaaDoorG48
import Derived.Test.YthgicbkdckpeaaaDoorG11
set_option linter.unusedSimpArgs false
set_option linter.unusedVariables false
set_option maxHeartbeats 4000000
namespace Go.Ab
open Go Go.Ab Go.Proofs Go.Ab.Ty

theorem run_bad {p : Tk} {sched : List Int} (e : Int) (he : e ≠ 0) (hck : Fn Tryd.prog 59 [encT p, .lst (sched.map .int)] (.int e)) :
    Fn Tryd.prog 17 [encT p, .lst (sched.map .int)] (.tup [.agg [nilS, nilS, nilS, nilS, .base (.bool false), .int 0], .int e]) := by
  have ib := ran_bad e he hck
  refine Fn.intro' [(0, encT p), (1, .lst (sched.map .int))] 2 71 Tryd.func17 (by kernel_rfl) rfl rfl rfl rfl rfl ?_
  refine goA ?_
  refine callA (ib) ?_
  refine goA ?_
  have hd : (e != 0) = true := by simp [he]
  refine ift_ ?_ rfl (by simp +decide only [go_sem, *] <;> rfl)
  refine goA ?_
  refine bldA pl32 zero32 ?_
  refine goA ?_
  exact Ret.data (vs := [.agg [nilS, nilS, nilS, nilS, .base (.bool false), .int 0], .int e]) (by show resVals _ _ [.cell 4 32, .tmp 5] = _; simp +decide only [resVals, resVal, ldPtr, ldE, go_sem, *] <;> rfl) rfl (Pu.tup (by
    intro a ha
    simp only [List.mem_cons, List.not_mem_nil, or_false] at ha
    rcases ha with rfl | rfl
    · exact .agg fun c hc => by
        simp only [List.mem_cons, List.not_mem_nil, or_false] at hc
        rcases hc with rfl | rfl | rfl | rfl | rfl | rfl <;> exact .base _
    · exact .base _))
def p0 : Tk := ⟨[⟨0, 1, [⟨1, 0, 0, 5, 0, []⟩, ⟨4, 0, 0, 0, 0, []⟩]⟩], [], 0⟩
theorem end0_turns : (endF p0 []).turns.length = 2 := by
  unfold endF; decide +kernel
theorem end0_states : (endF p0 []).tasks.map (·.state) = [3] := by
  unfold endF; decide +kernel
theorem end0_line : (endF p0 []).lines = [⟨#[48, 58, 53]⟩] := by
  unfold endF; decide +kernel
theorem end0_all : ((endF p0 []).tasks.all fun t => decide (3 ≤ t.state)) = true := by
  unfold endF; decide +kernel
theorem ok0 : okRun p0 [] := by
  have hs1 : Rg.okStep ⟨p0, Rg.cod p0.codes 0, 0, false⟩ 0 ⟨1, 0, 0, 5, 0, []⟩ := .inl ⟨.inl rfl, ⟨fun v hv => by rw [List.mem_singleton] at hv; subst hv; exact ⟨by decide, by decide⟩, by decide⟩, rfl, by decide, by decide, rfl, rfl⟩
  have hs2 : Rg.okStep ⟨p0, Rg.cod p0.codes 0, 0, false⟩ 1 ⟨4, 0, 0, 0, 0, []⟩ := .inr (.inr (.inl ⟨rfl, ⟨fun v hv => by rw [List.mem_singleton] at hv; subst hv; exact ⟨by decide, by decide⟩, by decide⟩, rfl, rfl, rfl, rfl⟩))
  refine ⟨⟨⟨by decide, by decide, by decide, by decide, by decide⟩, fun i hi => ?_, fun i hi => absurd hi (Nat.not_lt_zero _)⟩, by decide⟩
  have : i = 0 := by have : i < 1 := hi; omega
  subst this
  refine ⟨⟨by decide, by decide, by decide, by decide, by decide⟩, fun k hk => ?_⟩
  have hk2 : k < 2 := hk
  rcases k with _ | _ | k
  · exact hs1
  · exact hs2
  · omega
theorem ran0 : ∃ (ac : List Acc) (ps : List Int), ranV (endF p0 []) = .agg [.lst [.base (.string ⟨#[48, 58, 53]⟩)], .lst (ac.map encA), .lst [.int 3], .lst (ps.map AV.int), .base (.bool true), .int 2] :=
  ⟨(endF p0 []).accs, (endF p0 []).tasks.map (·.par), by
    unfold ranV
    rw [end0_line, end0_states, end0_all, end0_turns]
    rfl⟩
end Go.Ab
set_option maxHeartbeats 4000000
namespace Go.Ab
open Go Go.Ab Go.Proofs Go.Ab.Ty

theorem Le.lstL {es ds : List AV} (hl : es.length = ds.length) (h : ∀ (i : Nat) (e d : AV), es[i]? = some e → ds[i]? = some d → LeL e.cells d.cells) : Le (.lst es) (.lst ds) := fun w O ι H u hu => by
  have hex : ∀ (i : Nat) (d : AV), ds[i]? = some d → ∃ e, es[i]? = some e ∧ LeL e.cells d.cells := fun i d hd => by
    have hi : i < es.length := by rw [hl]; exact (List.getElem?_eq_some_iff.1 hd).1
    exact ⟨_, List.getElem?_eq_getElem hi, h i _ d (List.getElem?_eq_getElem hi) hd⟩
  cases hu with
  | lnil =>
    obtain rfl : ds = [] := List.eq_nil_of_length_eq_zero hl.symm
    exact .lnil
  | lst es a n cap s val hn hcap hmax hlen hspot hc hv =>
    refine .lst ds a n cap s val (hn.trans hl) hcap hmax (fun d hd => ?_) (fun d hd => ?_) (fun i j d c hd hc' => ?_) (fun i j d c hd hc' => ?_)
    · obtain ⟨i, hi⟩ := List.getElem?_of_mem hd
      obtain ⟨e, he, hle⟩ := hex i d hi
      rw [← hle.len]; exact hlen e (List.mem_of_getElem? he)
    · obtain ⟨i, hi⟩ := List.getElem?_of_mem hd
      obtain ⟨e, he, hle⟩ := hex i d hi
      exact hspot e (List.mem_of_getElem? he)
    · obtain ⟨e, he, hle⟩ := hex i d hd
      obtain ⟨y, hy, _⟩ := hle.at hc'
      exact hc i j e y he hy
    · obtain ⟨e, he, hle⟩ := hex i d hd
      obtain ⟨y, hy, hll⟩ := hle.at hc'
      exact hll _ _ _ _ _ (hv i j e y he hy)
theorem LeL.refl : ∀ l : List AV, LeL l l
  | [] => trivial
  | a :: l => ⟨.refl a, LeL.refl l⟩
abbrev n0 : AV := .agg [.lst [.agg [.int 0, .int 1, .lst [.agg [.int 1, .int 0, .int 0, .int 5, .int 0, nilS], .agg [.int 4, .int 0, .int 0, .int 0, .int 0, nilS]]]], nilS, .int 0]
theorem n0_le : Le n0 (encT p0) := by
  have hs : ∀ (a b c d e : Int), Le (.agg [.int a, .int b, .int c, .int d, .int e, nilS]) (encS ⟨a, b, c, d, e, []⟩) := fun a b c d e => .aggL ⟨.refl _, .refl _, .refl _, .refl _, .refl _, .nil, trivial⟩
  refine .aggL ⟨.lst1 ⟨.refl _, .refl _, .lstL rfl fun i e d h1 h2 => ?_, trivial⟩, .nil, .refl _, trivial⟩
  rcases i with _ | _ | i
  · cases h1; cases h2; exact ⟨.refl _, .refl _, .refl _, .refl _, .refl _, .nil, trivial⟩
  · cases h1; cases h2; exact ⟨.refl _, .refl _, .refl _, .refl _, .refl _, .nil, trivial⟩
  · cases h1
theorem pu_n0 : Pu n0 := by
  have hS : ∀ (x : AV), x ∈ [AV.agg [.int 1, .int 0, .int 0, .int 5, .int 0, nilS], .agg [.int 4, .int 0, .int 0, .int 0, .int 0, nilS]] → ∀ c ∈ x.cells, Pu c := fun x hx c hc => by
    simp only [List.mem_cons, List.not_mem_nil, or_false] at hx
    rcases hx with rfl | rfl <;> (simp only [AV.cells, List.mem_cons, List.not_mem_nil, or_false] at hc; rcases hc with rfl | rfl | rfl | rfl | rfl | rfl <;> exact .base _)
  refine .agg fun c hc => ?_
  simp only [List.mem_cons, List.not_mem_nil, or_false] at hc
  rcases hc with rfl | rfl | rfl
  · refine .lst fun e he c hc => ?_
    rw [List.mem_singleton] at he; subst he
    simp only [AV.cells, List.mem_cons, List.not_mem_nil, or_false] at hc
    rcases hc with rfl | rfl | rfl
    · exact .base _
    · exact .base _
    · exact .lst hS
  · exact .base _
  · exact .base _
theorem awake_ok {mm : List (Nat × Obj)} (hmm : TabM mm) : FnM Tryd.prog mm 22 [] (.bool true) := by
  have ir0 := run_ok hmm ok0
  obtain ⟨ac, ps, e0⟩ := ran0
  rw [e0] at ir0
  have ir : FnM Tryd.prog mm 17 [n0, nilS] _ := ir0.le ⟨n0_le, .nil, trivial⟩
  clear ir0 e0
  refine FnM.intro' [] 0 52 Tryd.func22 (by kernel_rfl) rfl rfl rfl rfl rfl ?_
  refine goA ?_
  refine bldA pl70 zero70 ?_
  refine goA ?_
  refine bldA pl70 zero70 ?_
  refine goA ?_
  refine ARun.q1 rfl rfl (ql_buildSlice (by decide) Tryd.underlying66 sz70 (by kernel_rfl) (by decide) (by (simp +decide only [List.map, go_sem, *] <;> rfl)) (by (simp +decide only [List.map, go_sem, *] <;> rfl)) rfl) ?_
  refine goA ?_
  refine bldA pl68 zero68 ?_
  refine goA ?_
  refine ARun.q1 rfl rfl (ql_buildSlice (by decide) Tryd.underlying22 sz68 (by kernel_rfl) (by decide) (by (simp +decide only [List.map, go_sem, *] <;> rfl)) (by (simp +decide only [List.map, go_sem, *] <;> rfl)) rfl) ?_
  refine goA ?_
  refine bldA pl24 zero24 ?_
  refine goA ?_
  have hp0 : ∀ a ∈ [n0, nilS], Pu a := fun a ha => by
    simp only [List.mem_cons, List.not_mem_nil, or_false] at ha
    rcases ha with rfl | rfl
    · exact pu_n0
    · exact .base _
  refine callA ir ?_ (hp := hp0)
  refine goA ?_
  refine gqA (h := fun hg => ql_indexAddr_lst (e := .base (.string ⟨#[48, 58, 53]⟩)) rfl rfl Tryd.underlying29 (by omega) rfl (by kernel_rfl)) (hr := ?_)
  refine goA ?_
  refine gqA (h := fun hg => ql_indexAddr_lst (e := .int 3) rfl rfl Tryd.underlying25 (by omega) rfl (by kernel_rfl)) (hr := ?_)
  refine goA ?_
  exact Ret.data (vs := [.bool true]) rfl rfl (.base _)
end Go.Ab
set_option maxHeartbeats 4000000
namespace Go.Ab
open Go Go.Ab Go.Proofs Go.Ab.Ty

theorem eqInts_ok (a b : List Int) : Fn Tryd.prog 31 [.lst (a.map .int), .lst (b.map .int)] (.bool (decide (a = b))) := by
  refine Fn.intro' [(0, .lst (a.map .int)), (1, .lst (b.map .int))] 2 26 Tryd.func31 (by kernel_rfl) rfl rfl rfl rfl rfl ?_
  refine AWp.learn 0 rfl fun hlen => ?_
  rw [List.length_map] at hlen
  refine goB ?_
  refine ifA (fun hl => ?_) (fun hl => ?_)
  · simp at hl
    refine goB ?_
    exact Ret.bool rfl (by simp; intro h; exact hl (by rw [h]))
  simp at hl
  have hl' : a.length = b.length := by omega
  refine goB ?_
  refine AWp.loopP (J := fun k : Nat => k ≤ a.length ∧ ∀ i : Nat, i < k → nth 0 a i = nth 0 b i) (fun k => [(5, .int k)]) (fun k => a.length - k) 0 ⟨Nat.zero_le _, fun i h => by omega⟩ .wk ?_
  rintro k ⟨hk, he⟩
  refine goB ?_
  refine ifA (fun hd => ?_) (fun hd => ?_)
  · simp at hd
    refine goB ?_
    refine drA (k := 9) follows (hr := ?_)
    refine goB ?_
    refine ifA (fun hq => ?_) (fun hq => ?_)
    · simp at hq
      refine goB ?_
      exact Ret.bool rfl (by simp; rintro rfl; exact hq rfl)
    · simp at hq
      refine goB ?_
      rw [wrap_succ (by omega)]
      refine ⟨k + 1, ⟨by omega, fun i hi => ?_⟩, by omega, .wk⟩
      by_cases e : i = k
      · subst e; exact hq
      · exact he i (by omega)
  simp at hd
  refine goB ?_
  exact Ret.bool rfl (by
    simp
    apply List.ext_getElem hl'
    intro i h1 h2
    have := he i (by omega)
    rwa [nth_eq h1, nth_eq h2] at this)
end Go.Ab
set_option maxHeartbeats 4000000
namespace Go.Ab
open Go Go.Ab Go.Proofs Go.Ab.Ty

abbrev strV (x : ByteArray) : AV := .base (.string x)
theorem ba_loop (b : ByteArray) (n : Nat) : ∀ (i : Nat) (r : List UInt8), b.size - i = n → ByteArray.toList.loop b i r = r.reverse ++ b.data.toList.drop i := by
  have hb : b.size = b.data.toList.length := rfl
  induction n with
  | zero =>
    intro i r h
    rw [ByteArray.toList.loop]
    rw [if_neg (by omega), List.drop_eq_nil_of_le (by omega), List.append_nil]
  | succ n ih =>
    intro i r h
    rw [ByteArray.toList.loop, if_pos (by omega), ih (i + 1) _ (by omega)]
    rw [List.drop_eq_getElem_cons (i := i) (by omega)]
    have : b.get! i = b.data.toList[i]'(by omega) := by
      have h2 : i < b.data.size := by have : b.size = b.data.size := rfl
                                      omega
      show b.data[i]! = _
      rw [getElem!_pos b.data i h2]; rfl
    rw [this]; simp
theorem ba_toList (b : ByteArray) : b.toList = b.data.toList := by
  rw [ByteArray.toList, ba_loop b _ 0 [] rfl]; simp
theorem ba_inj {x y : ByteArray} (h : x.toList = y.toList) : x = y := by
  rw [ba_toList, ba_toList] at h
  cases x; cases y; simp at h; rw [h]
instance : OfNat ByteArray 0 := ⟨ByteArray.empty⟩

theorem eqStrs_ok (a b : List ByteArray) : Fn Tryd.prog 42 [.lst (a.map strV), .lst (b.map strV)] (.bool (decide (a = b))) := by
  refine Fn.intro' [(0, .lst (a.map strV)), (1, .lst (b.map strV))] 2 26 Tryd.func42 (by kernel_rfl) rfl rfl rfl rfl rfl ?_
  refine AWp.learn 0 rfl fun hlen => ?_
  rw [List.length_map] at hlen
  refine goB ?_
  refine ifA (fun hl => ?_) (fun hl => ?_)
  · simp at hl
    refine goB ?_
    exact Ret.bool rfl (by simp; intro h; exact hl (by rw [h]))
  simp at hl
  have hl' : a.length = b.length := by omega
  refine goB ?_
  refine AWp.loopP (J := fun k : Nat => k ≤ a.length ∧ ∀ i : Nat, i < k → nth 0 a i = nth 0 b i) (fun k => [(5, .int k)]) (fun k => a.length - k) 0 ⟨Nat.zero_le _, fun i h => by omega⟩ .wk ?_
  rintro k ⟨hk, he⟩
  refine goB ?_
  refine ifA (fun hd => ?_) (fun hd => ?_)
  · simp at hd
    refine goB ?_
    refine drA (k := 9) follows (hr := ?_)
    refine goB ?_
    refine ifA (fun hq => ?_) (fun hq => ?_)
    · simp at hq
      refine goB ?_
      exact Ret.bool rfl (by simp; rintro rfl; exact hq rfl)
    · simp at hq
      refine goB ?_
      rw [wrap_succ (by omega)]
      refine ⟨k + 1, ⟨by omega, fun i hi => ?_⟩, by omega, .wk⟩
      by_cases e : i = k
      · subst e; exact ba_inj hq
      · exact he i (by omega)
  simp at hd
  refine goB ?_
  exact Ret.bool rfl (by
    simp
    apply List.ext_getElem hl'
    intro i h1 h2
    have := he i (by omega)
    rwa [nth_eq h1, nth_eq h2] at this)
end Go.Ab
set_option maxHeartbeats 4000000
namespace Go.Ab
open Go Go.Ab Go.Proofs Go.Ab.Ty Go.RowKit

deriving instance DecidableEq for Acc
instance : Inhabited Acc := ⟨⟨0, 0, false, 0⟩⟩
instance : OfNat Acc 0 := ⟨⟨0, 0, false, 0⟩⟩
abbrev accV (x : Acc) : Array Value := #[.int .i64 x.task, .int .i64 x.object, .bool x.write, .int .i64 x.time]
theorem acc_arr {w : World} {O : Nat → Prop} {ι : Nat → Option Nat} {H : List ABlk} {x : Acc} {u : Value} (h : VR w O ι H (encA x) u) : u = .agg (accV x) := by
  obtain ⟨arr, e1, h1, h2⟩ := VR.agg_inv h
  obtain ⟨l⟩ := arr
  match l, h1 with
  | [a, b, c, d], _ =>
    have ha := (h2 0 _ a rfl rfl).base_inv
    have hb := (h2 1 _ b rfl rfl).base_inv
    have hc := (h2 2 _ c rfl rfl).base_inv
    have hd := (h2 3 _ d rfl rfl).base_inv
    rw [e1, ha, hb, hc, hd]
theorem fields_acc : (Tryd.prog.fieldsOf 73).toList = [
    { name := "Task", type := 3, offset := 0, embedded := false, tag := "", pkgPath := "", byteOffset := 0 },
    { name := "Object", type := 3, offset := 1, embedded := false, tag := "", pkgPath := "", byteOffset := 8 },
    { name := "Write", type := 4, offset := 2, embedded := false, tag := "", pkgPath := "", byteOffset := 16 },
    { name := "Time", type := 3, offset := 3, embedded := false, tag := "", pkgPath := "", byteOffset := 24 }] := by kernel_rfl
theorem acc_eq (w : World) (x y : Acc) : (Op.equal 73 (.agg (accV x)) (.agg (accV y))).run Tryd.prog w = .ok (decide (x = y)) w := by
  show (Op.equalIn (9999 + 1) 73 (.agg (accV x)) (.agg (accV y))).run Tryd.prog w = _
  rw [run_equalIn_struct w 9999 73 (accV x) (accV y) (by kernel_rfl) (by kernel_rfl), fields_acc]
  have hp : ∀ (z : Acc), (part 3 (accV z) 0).run Tryd.prog w = .ok (.int .i64 z.task) w ∧ (part 3 (accV z) 1).run Tryd.prog w = .ok (.int .i64 z.object) w ∧ (part 4 (accV z) 2).run Tryd.prog w = .ok (.bool z.write) w ∧ (part 3 (accV z) 3).run Tryd.prog w = .ok (.int .i64 z.time) w := fun z => by
    have hc : ∀ (j : Nat) (c : AV) (u : Value), [AV.int z.task, .int z.object, .base (.bool z.write), .int z.time][j]? = some c → (accV z)[j]? = some u → VR w (fun _ => False) (fun _ => none) [] c u := fun j c u h1 h2 => by
      rcases j with _ | _ | _ | _ | j
      · cases h1; cases h2; exact .base _
      · cases h1; cases h2; exact .base _
      · cases h1; cases h2; exact .base _
      · cases h1; cases h2; exact .base _
      · cases h1
    have g : ∀ (t : TypeId) (o : Nat) (v : Value), ldE (aggTy Tryd.prog t) (szTy Tryd.prog t) (.agg [AV.int z.task, .int z.object, .base (.bool z.write), .int z.time]) o = some (.base v) → (part t (accV z) o).run Tryd.prog w = .ok v w := fun t o v hl => by
      obtain ⟨u, r, hv⟩ := part_run (P := Tryd.prog) (w := w) rfl hc hl
      rw [hv.base_inv] at r; exact r
    exact ⟨g 3 0 _ (by rw [agg3, sz3]; rfl), g 3 1 _ (by rw [agg3, sz3]; rfl), g 4 2 _ (by rw [agg4, sz4]; rfl), g 3 3 _ (by rw [agg3, sz3]; rfl)⟩
  obtain ⟨x0, x1, x2, x3⟩ := hp x
  obtain ⟨y0, y1, y2, y3⟩ := hp y
  have i1 : ∀ a b : Int, (Op.equalIn 9999 3 (.int .i64 a) (.int .i64 b)).run Tryd.prog w = .ok (a == b) w := fun a b => run_equalIn_int w 9998 3 .i64 .i64 a b (by kernel_rfl)
  have i2 : ∀ a b : Bool, (Op.equalIn 9999 4 (.bool a) (.bool b)).run Tryd.prog w = .ok (a == b) w := fun a b => run_equalIn_bool' w 9998 4 a b (by kernel_rfl)
  have hd : decide (x = y) = (x.task == y.task && (x.object == y.object && (x.write == y.write && x.time == y.time))) := by
    obtain ⟨a, b, c, d⟩ := x
    obtain ⟨a', b', c', d'⟩ := y
    rw [Bool.eq_iff_iff]
    simp
  rw [hd]
  have n1 : ("Task" : String) ≠ "_" := by decide
  have n2 : ("Object" : String) ≠ "_" := by decide
  have n3 : ("Write" : String) ≠ "_" := by decide
  have n4 : ("Time" : String) ≠ "_" := by decide
  have j0 := i1 x.task y.task
  have j1 := i1 x.object y.object
  have j2 := i2 x.write y.write
  have j3 := i1 x.time y.time
  clear i1 i2 hd hp
  generalize (x.task == y.task) = b0 at j0 ⊢
  generalize (x.object == y.object) = b1 at j1 ⊢
  generalize (x.write == y.write) = b2 at j2 ⊢
  generalize (x.time == y.time) = b3 at j3 ⊢
  simp only [Op.eqFields, n1, n2, n3, n4, ne_eq, not_false_eq_true, if_true, Sem.run_bind, x0, y0, Result.andThen_ok, j0]
  cases b0 <;> cases b1 <;> cases b2 <;> cases b3 <;> simp [Op.eqFields, Sem.run_bind, Sem.run_pure, x1, y1, x2, y2, x3, y3, j1, j2, j3, Result.andThen_ok]
theorem ql_neq_acc {H : List ABlk} {ρ : Operand → AV} {x y : Operand} {a b : Acc} {yt : TypeId} (hx : ρ x = encA a) (hy : ρ y = encA b) : QL Tryd.prog H ρ (.binOp .neq 73 x y yt) (.base (.bool (decide (a ≠ b)))) := by
  refine QL.of_run fun w0 O ι A w hs hv o ho => ?_
  have h1 := hv x (by simp [Op.operands])
  have h2 := hv y (by simp [Op.operands])
  rw [hx] at h1; rw [hy] at h2
  have e1 := acc_arr h1
  have e2 := acc_arr h2
  have he := acc_eq w a b
  have hg : Tryd.prog.eqGuardType Tryd.prog.depth 73 = false := by kernel_rfl
  have hgr : (eqGuard .neq 73 x y (.agg (accV a)) (.agg (accV b))).run Tryd.prog w = .ok () w := by
    simp [eqGuard, hg]
  exact ⟨.bool (decide (a ≠ b)), by simp only [execOp, ho, e1, e2, Sem.run_bind, hgr, Result.andThen_ok, binOp, he, Sem.run_pure, decide_not], .base _⟩
end Go.Ab
set_option maxHeartbeats 4000000
namespace Go.Ab
open Go Go.Ab Go.Proofs Go.Ab.Ty

end Go.Ab
set_option maxHeartbeats 4000000
namespace Go.Ab
open Go Go.Ab Go.Proofs Go.Ab.Ty

structure TR where
  lines : List ByteArray
  accs : List Acc
  states : List Int
  pars : List Int
  all : Bool
  turns : Int
deriving DecidableEq
def encR (x : TR) : AV := .agg [.lst (x.lines.map strV), .lst (x.accs.map encA), .lst (x.states.map .int), .lst (x.pars.map .int), .base (.bool x.all), .int x.turns]
attribute [go_sem] encR
@[simp] theorem Pu_mapStr (l : List ByteArray) : Pu (.lst (l.map strV)) := .lst fun e he c hc => by
  obtain ⟨x, _, rfl⟩ := List.mem_map.1 he
  simp only [AV.cells, List.mem_singleton] at hc; subst hc; exact .base _
@[simp] theorem Pu_mapAcc (l : List Acc) : Pu (.lst (l.map encA)) := .lst fun e he c hc => by
  obtain ⟨x, _, rfl⟩ := List.mem_map.1 he
  simp only [encA, AV.cells, List.mem_cons, List.not_mem_nil, or_false] at hc
  rcases hc with rfl | rfl | rfl | rfl <;> exact .base _
@[simp] theorem Pu_mapInt2 (l : List Int) : Pu (.lst (l.map .int)) := Pu_mapInt l
end Go.Ab
set_option maxHeartbeats 4000000
namespace Go.Ab
open Go Go.Ab Go.Proofs Go.Ab.Ty

theorem VR.bdR {w : World} {O : Nat → Prop} {ι : Nat → Option Nat} {H : List ABlk} {u : Value} {x : TR} (h : VR w O ι H (encR x) u) : x.accs.length ≤ 9223372036854775807 := by
  obtain ⟨v, hv⟩ := h.agg_el (j := 1) rfl
  have := hv.lst_len; rw [List.length_map] at this; exact this
theorem same_ok (x y : TR) : Fn Tryd.prog 21 [encR x, encR y] (.bool (decide (x = y))) := by
  refine Fn.intro' [(0, encR x), (1, encR y)] 2 69 Tryd.func21 (by kernel_rfl) rfl rfl rfl rfl rfl ?_
  refine AWp.learnV 0 (a := encR x) (Ψ := x.accs.length ≤ 9223372036854775807) rfl (fun w O ι H u h => VR.bdR h) fun hbd => ?_
  refine AWp.seq ?_
  refine AWp.join ⟨[(2, .iptr (encR x) 0), (3, .iptr (encR y) 0)], []⟩ ?_ ?_
  · refine goB ?_
    have hPu : ∀ (z : TR) (r : Nat → Option Nat) (H : List ABlk), PubRL r H (encR z).cells (encR z).cells := fun z r H => ⟨.pu (Pu_mapStr _), .pu (Pu_mapAcc _), .pu (Pu_mapInt _), .pu (Pu_mapInt _), .pu (.base _), .pu (.base _), trivial⟩
    exact Wk.selB [] List.nodup_nil (fun b hb => absurd hb (Nat.not_lt_zero _)) trivial (WkR.all ⟨.iptr rfl rfl rfl rfl (hPu x _ _), .iptr rfl rfl rfl rfl (hPu y _ _), trivial⟩)
  refine goB ?_
  refine gcallA (i := fun hg => eqStrs_ok x.lines y.lines) (hr := ?_)
  refine goB ?_
  refine gcallA (i := fun hg => eqInts_ok x.states y.states) (hr := ?_)
  refine goB ?_
  refine gcallA (i := fun hg => eqInts_ok x.pars y.pars) (hr := ?_)
  refine goB ?_
  have hxy : x = y ↔ ((x.all = y.all ∧ x.turns = y.turns ∧ x.lines = y.lines ∧ x.states = y.states ∧ x.pars = y.pars ∧ x.accs.length = y.accs.length) ∧ x.accs = y.accs) := by
    cases x; cases y; simp
    constructor
    · rintro ⟨rfl, rfl, rfl, rfl, rfl, rfl⟩; simp
    · rintro ⟨⟨rfl, rfl, rfl, rfl, rfl, _⟩, rfl⟩; simp
  by_cases hP : x.all = y.all ∧ x.turns = y.turns ∧ x.lines = y.lines ∧ x.states = y.states ∧ x.pars = y.pars ∧ x.accs.length = y.accs.length
  · obtain ⟨h1, h2, h3, h4, h5, h6⟩ := hP
    refine iff_ ?_ ?_ rfl
    rotate_left
    · simp [h1, h2, h3, h4, h5, h6]
    refine AWp.skip ?_
    refine AWp.weaken (s2 := ⟨[(2, .iptr (encR x) 0), (3, .iptr (encR y) 0)], []⟩) ?_ ?_
    · exact .wf
    refine goB ?_
    refine AWp.loop (J := fun k : Nat => k ≤ x.accs.length ∧ ∀ i : Nat, i < k → nth 0 x.accs i = nth 0 y.accs i) (fun k => ⟨[(2, .iptr (encR x) 0), (3, .iptr (encR y) 0), (5, .int k)], []⟩) (fun k => x.accs.length - k) 0 ⟨Nat.zero_le _, fun i h => by omega⟩ .wf ?_
    rintro k ⟨hk, he⟩
    refine goB ?_
    refine ifA (fun hd => ?_) (fun hd => ?_)
    · simp at hd
      refine goB ?_
      refine drA (k := 11) follows (hr := ?_)
      refine goB ?_
      refine ARun.q1 rfl rfl (ql_neq_acc (a := nth default x.accs k) (b := nth default y.accs k) rfl rfl) ?_
      refine goB ?_
      refine ifA (fun hq => ?_) (fun hq => ?_)
      · simp at hq
        refine goB ?_
        exact Ret.bool rfl (by simp; rintro rfl; exact hq rfl)
      · simp at hq
        refine goB ?_
        rw [wrap_succ (by omega)]
        refine ⟨k + 1, ⟨by omega, fun i hi => ?_⟩, by omega, .wf⟩
        by_cases e : i = k
        · subst e; exact hq
        · exact he i (by omega)
    simp at hd
    refine goB ?_
    exact Ret.bool rfl (by
      rw [decide_eq_true_iff, hxy]
      simp only [true_iff]
      refine ⟨⟨h1, h2, h3, h4, h5, h6⟩, ?_⟩
      apply List.ext_getElem h6
      intro i q1 q2
      have := he i (by omega)
      rwa [nth_eq q1, nth_eq q2] at this)
  · refine ift_ ?_ ?_ rfl
    rotate_left
    · (by_cases h1 : x.all = y.all <;> by_cases h2 : x.turns = y.turns <;> by_cases h3 : x.lines = y.lines <;> by_cases h4 : x.states = y.states <;> by_cases h5 : x.pars = y.pars <;> by_cases h6 : x.accs.length = y.accs.length <;> simp [h1, h2, h3, h4, h5, h6] <;> (first | omega | exact hP ⟨h1, h2, h3, h4, h5, h6⟩))
    refine goB ?_
    exact Ret.bool rfl (by rw [decide_eq_true_iff, hxy]; simp only [Bool.false_eq_true, false_iff]; exact fun h => hP h.1)
end Go.Ab
set_option maxHeartbeats 4000000
namespace Go.Ab
open Go Go.Ab Go.Proofs Go.Ab.Ty

theorem Pu_encR (x : TR) : Pu (encR x) := .agg fun c hc => by
  simp only [List.mem_cons, List.not_mem_nil, or_false] at hc
  rcases hc with rfl | rfl | rfl | rfl | rfl | rfl
  · exact Pu_mapStr _
  · exact Pu_mapAcc _
  · exact Pu_mapInt _
  · exact Pu_mapInt _
  · exact .base _
  · exact .base _
attribute [simp] Pu_encR
end Go.Ab
set_option maxHeartbeats 4000000
namespace Go.Ab
open Go Go.Ab Go.Proofs Go.Ab.Ty

theorem shI3 {f : Nat} {xs : List AV} (h : Sh Tryd.prog f 3 xs) : ∃ n : Int, xs = [.int n] := by
  cases f with
  | zero => exact h.elim
  | succ f =>
    simp only [Sh, Tryd.underlying3] at h
    obtain ⟨n, h1, h2⟩ := h
    exact ⟨n, h1⟩
theorem allMap {α : Type} {Q : List AV → Prop} {f : α → AV} {g : List AV → AV} {parts : List (List AV)} (h : ∀ p ∈ parts, Q p) (hq : ∀ p, Q p → ∃ x, g p = f x) : ∃ l : List α, parts.map g = l.map f := by
  induction parts with
  | nil => exact ⟨[], rfl⟩
  | cons p ps ih =>
    obtain ⟨l, hl⟩ := ih fun q hq' => h q (by simp [hq'])
    obtain ⟨x, hx⟩ := hq p (h p (by simp))
    exact ⟨x :: l, by rw [List.map_cons, List.map_cons, hl, hx]⟩
theorem shL25 {f : Nat} {xs : List AV} (h : Sh Tryd.prog f 25 xs) : ∃ l : List Int, xs = [.lst (l.map .int)] := by
  cases f with
  | zero => exact h.elim
  | succ f =>
    simp only [Sh, Tryd.underlying25] at h
    obtain ⟨parts, rfl, hl, h⟩ := h
    obtain ⟨l, h1⟩ := allMap (f := AV.int) (g := mkEl (aggTy Tryd.prog 3 == some true)) h fun p hp => by
      obtain ⟨n, rfl⟩ := shI3 hp.2
      exact ⟨n, by rw [agg3]; rfl⟩
    exact ⟨l, by rw [h1]⟩
theorem six {α : Type} {l : List α} (h : l.length = 6) : ∃ p0 p1 p2 p3 p4 p5, l = [p0, p1, p2, p3, p4, p5] := by
  match l, h with
  | [p0, p1, p2, p3, p4, p5], _ => exact ⟨_, _, _, _, _, _, rfl⟩
end Go.Ab
set_option maxHeartbeats 4000000
namespace Go.Proofs.YthgicbkdckpeaaaDoor
open Go.ChangeShapes Go.WideShapes Go.ChangeAt Go.RowKit Go.Lib Go.Ab
theorem own : ownKnob Tryd.prog.godebug = none := by kernel_rfl
set_option maxRecDepth 100000 in
theorem powD : (Rows.laid_internal_strconv_uint64pow10 : DataW Unit) = tabData .u64 pow10Tab := by kernel_rfl
theorem tabs {W : World} (h : laidMetH Tryd.prog [("math/bits.deBruijn32tab", Rows.laid_math_bits_deBruijn32tab), ("math/bits.deBruijn64tab", Rows.laid_math_bits_deBruijn64tab), ("internal/strconv.uint64pow10", Rows.laid_internal_strconv_uint64pow10)] W) : ∃ mm, TabM mm ∧ ∀ p ∈ mm, W.heap[p.1]? = some p.2 := by
  have h : laidMet Tryd.prog [("math/bits.deBruijn32tab", Rows.laid_math_bits_deBruijn32tab), ("math/bits.deBruijn64tab", Rows.laid_math_bits_deBruijn64tab), ("internal/strconv.uint64pow10", Rows.laid_internal_strconv_uint64pow10)] W := h
  obtain ⟨g, t, cs, fuel, p, h1, h2, h3, h4⟩ := laidMet.reads h (n := "internal/strconv.uint64pow10") (d := tabData .u64 pow10Tab) (by rw [powD]; exact List.mem_cons_of_mem _ (List.mem_cons_of_mem _ (List.mem_singleton.2 rfl)))
  have e1 : Tryd.prog.globalNamed "internal/strconv.uint64pow10" = some 0 := laysI.m17
  obtain rfl := Option.some.inj (e1.symm.trans h1)
  have e2 : (Tryd.prog.globals[0]?).map (·.type) = some 177 := by kernel_rfl
  obtain rfl := Option.some.inj (e2.symm.trans h2)
  have hcs := cells_of_tab (P := Tryd.prog) (t := 177) (e := 171) (n := 20) (k := .u64) (zs := pow10Tab) (by kernel_rfl) (by kernel_rfl) (by kernel_rfl) (by kernel_rfl) h4
  unfold World.var? at h3
  rw [e1] at h3
  simp only [Option.bind_some] at h3
  split at h3
  · rename_i c ty fz hc
    injection h3 with h3
    subst h3
    refine ⟨[(0, .cells c ty fz)], ⟨ty, fz, ?_⟩, fun p hp => ?_⟩
    · rw [← hcs]
    · rw [List.mem_singleton] at hp; subst hp; exact hc
  · cases h3
def layT (l : List Value) : Obj → Obj
  | .cells _ t frozen => .cells l.toArray t frozen
  | o => o
def lay0 : List Value := pow10Tab.map fun z => Value.int .u64 z
def lay1 : List Value := [0, 1, 28, 2, 29, 14, 24, 3, 30, 22, 20, 15, 25, 17, 4, 8, 31, 27, 13, 23, 21, 19, 16, 7, 26, 12, 18, 6, 11, 5, 10, 9].map fun z => Value.int .u8 z
def lay2 : List Value := [0, 1, 56, 2, 57, 49, 28, 3, 61, 58, 42, 50, 38, 29, 17, 4, 62, 47, 59, 36, 45, 43, 51, 22, 53, 39, 33, 30, 24, 18, 12, 5, 63, 55, 48, 27, 60, 41, 37, 16, 46, 35, 44, 21, 52, 32, 23, 11, 54, 26, 40, 15, 34, 20, 31, 10, 25, 14, 19, 9, 13, 8, 7, 6].map fun z => Value.int .u8 z
noncomputable def layHeap (os : Os) : Array Obj := (((World.holding Tryd.prog os ⟨#[], #[], []⟩).heap.modify 0 (layT lay0)).modify 1 (layT lay1)).modify 2 (layT lay2)
noncomputable def laidWorld (os : Os) : World := { World.holding Tryd.prog os ⟨#[], #[], []⟩ with heap := layHeap os }
end Go.Proofs.YthgicbkdckpeaaaDoor
set_option maxHeartbeats 4000000
namespace Go.Ab
open Go Go.Ab Go.Proofs Go.Ab.Ty

theorem three {α : Type} {l : List α} (h : l.length = 3) : ∃ p0 p1 p2, l = [p0, p1, p2] := by
  match l, h with
  | [p0, p1, p2], _ => exact ⟨_, _, _, rfl⟩
theorem shS70 {f : Nat} {p : List AV} (h : Sh Tryd.prog f 70 p) : ∃ x : Stp, AV.agg p = encS x := by
  cases f with
  | zero => exact h.elim
  | succ f =>
    simp only [Sh, Tryd.underlying70] at h
    obtain ⟨parts, hlen, rfl, h⟩ := h
    obtain ⟨p0, p1, p2, p3, p4, p5, rfl⟩ := six (show parts.length = 6 from hlen)
    obtain ⟨a0, rfl⟩ := shI3 (h 0 _ p0 rfl rfl).2
    obtain ⟨a1, rfl⟩ := shI3 (h 1 _ p1 rfl rfl).2
    obtain ⟨a2, rfl⟩ := shI3 (h 2 _ p2 rfl rfl).2
    obtain ⟨a3, rfl⟩ := shI3 (h 3 _ p3 rfl rfl).2
    obtain ⟨a4, rfl⟩ := shI3 (h 4 _ p4 rfl rfl).2
    obtain ⟨a5, rfl⟩ := shL25 (h 5 _ p5 rfl rfl).2
    exact ⟨⟨a0, a1, a2, a3, a4, a5⟩, rfl⟩
theorem shL66 {f : Nat} {xs : List AV} (h : Sh Tryd.prog f 66 xs) : ∃ l : List Stp, xs = [.lst (l.map encS)] := by
  cases f with
  | zero => exact h.elim
  | succ f =>
    simp only [Sh, Tryd.underlying66] at h
    obtain ⟨parts, rfl, hl, h⟩ := h
    obtain ⟨l, h1⟩ := allMap (f := encS) (g := mkEl (aggTy Tryd.prog 70 == some true)) h fun p hp => by
      obtain ⟨n, hn⟩ := shS70 hp.2
      exact ⟨n, by rw [agg70]; exact hn⟩
    exact ⟨l, by rw [h1]⟩
theorem shC68 {f : Nat} {p : List AV} (h : Sh Tryd.prog f 68 p) : ∃ x : Cd, AV.agg p = encC x := by
  cases f with
  | zero => exact h.elim
  | succ f =>
    simp only [Sh, Tryd.underlying68] at h
    obtain ⟨parts, hlen, rfl, h⟩ := h
    obtain ⟨p0, p1, p2, rfl⟩ := three (show parts.length = 3 from hlen)
    obtain ⟨a0, rfl⟩ := shI3 (h 0 _ p0 rfl rfl).2
    obtain ⟨a1, rfl⟩ := shI3 (h 1 _ p1 rfl rfl).2
    obtain ⟨a2, rfl⟩ := shL66 (h 2 _ p2 rfl rfl).2
    exact ⟨⟨a0, a1, a2⟩, rfl⟩
theorem shL22 {f : Nat} {xs : List AV} (h : Sh Tryd.prog f 22 xs) : ∃ l : List Cd, xs = [.lst (l.map encC)] := by
  cases f with
  | zero => exact h.elim
  | succ f =>
    simp only [Sh, Tryd.underlying22] at h
    obtain ⟨parts, rfl, hl, h⟩ := h
    obtain ⟨l, h1⟩ := allMap (f := encC) (g := mkEl (aggTy Tryd.prog 68 == some true)) h fun p hp => by
      obtain ⟨n, hn⟩ := shC68 hp.2
      exact ⟨n, by rw [agg68]; exact hn⟩
    exact ⟨l, by rw [h1]⟩
theorem shT24 {a : AV} (h : ShV Tryd.prog 24 a) : ∃ x : Tk, a = encT x := by
  unfold ShV at h
  obtain ⟨f, p, h, hn, e⟩ := h
  cases f with
  | zero => exact h.elim
  | succ f =>
    simp only [Sh, Tryd.underlying24] at h
    have ⟨parts, hlen, e2, h3⟩ := h
    clear h
    subst e2
    obtain ⟨p0, p1, p2, hp⟩ := three (show parts.length = 3 from hlen)
    rw [hp] at h3 e
    have g0 : Sh Tryd.prog f 22 p0 := (h3 0 _ p0 rfl rfl).2
    have g1 : Sh Tryd.prog f 22 p1 := (h3 1 _ p1 rfl rfl).2
    have g2 : Sh Tryd.prog f 3 p2 := (h3 2 _ p2 rfl rfl).2
    obtain ⟨a0, rfl⟩ := shL22 g0
    obtain ⟨a1, rfl⟩ := shL22 g1
    obtain ⟨a2, rfl⟩ := shI3 g2
    exact ⟨⟨a0, a1, a2⟩, by rw [e, agg24]; rfl⟩
theorem shL25V {a : AV} (h : ShV Tryd.prog 25 a) : ∃ l : List Int, a = .lst (l.map .int) := by
  unfold ShV at h
  obtain ⟨f, p, h, hn, e⟩ := h
  obtain ⟨l, rfl⟩ := shL25 h
  exact ⟨l, by rw [e, agg25]; rfl⟩
theorem shB5 {f : Nat} {xs : List AV} (h : Sh Tryd.prog f 5 xs) : ∃ n : Int, 0 ≤ n ∧ n ≤ 255 ∧ xs = [.base (.int .u8 n)] := by
  cases f with
  | zero => exact h.elim
  | succ f =>
    simp only [Sh, Tryd.underlying5] at h
    obtain ⟨n, h1, h2⟩ := h
    have e1 : IntKind.u8.min = 0 := by decide
    have e2 : IntKind.u8.max = 255 := by decide
    exact ⟨n, by omega, by omega, h1⟩
theorem shB5V {a : AV} (h : ShV Tryd.prog 5 a) : ∃ n : Nat, n ≤ 255 ∧ a = .base (.int .u8 n) := by
  unfold ShV at h
  obtain ⟨f, p, h, hn, e⟩ := h
  obtain ⟨n, h1, h2, rfl⟩ := shB5 h
  exact ⟨n.toNat, by omega, by rw [e, agg5, show ((n.toNat : Nat) : Int) = n by omega]; rfl⟩
end Go.Ab
