/- Characters and bytes, turned into a string. -/
import Derived.Test.YtpgbgclphjgdbaaAbI
import Derived.Test.YtpgbgclphjgdbaaAbF
set_option linter.unusedSimpArgs false
set_option linter.unusedVariables false
namespace Go.Ab
open Go Go.RowKit

def encS (l : List Int) : ByteArray := l.foldl (fun s n => s ++ Utf8.encode n) ByteArray.empty
section
variable {P : Program} {H : List ABlk} {ρ : Operand → AV}
theorem lst_load {w : World} {O : Nat → Prop} {ι : Nat → Option Nat} {H : List ABlk} {l : List Int} {k : IntKind} {v : Value} (h : VR w O ι H (.lst (l.map fun n => .base (.int k n))) v) :
    (v = .slice none 0 0 ∧ l = []) ∨ ∃ a c, v = .slice (some a) l.length c ∧ (loadCells a l.length).run P w = .ok (l.map (Value.int k)).toArray w := by
  generalize hL : l.map (fun n => AV.base (.int k n)) = L at h
  cases h with
  | lnil => exact .inl ⟨rfl, List.map_eq_nil_iff.1 hL⟩
  | lst es a n cap s val hn hcap hmax hlen hspot hc hv =>
    subst hL
    simp only [List.length_map] at hn
    subst hn
    refine .inr ⟨a, cap, rfl, ?_⟩
    have := run_loadCells_list (P := P) w a (l.map (Value.int k)) (fun j v hj => by
      rw [List.getElem?_map, Option.map_eq_some_iff] at hj
      obtain ⟨x, hx, rfl⟩ := hj
      have he : (l.map fun n => AV.base (.int k n))[j]? = some (.base (.int k x)) := by rw [List.getElem?_map, hx]; rfl
      have hm := List.mem_of_getElem? he
      have h1 := hlen _ hm
      simp [AV.cells] at h1
      subst h1
      obtain ⟨_, h2⟩ := hc j 0 _ (.base (.int k x)) he rfl
      have h3 := (hv j 0 _ (.base (.int k x)) he rfl).base_inv
      rw [h3] at h2
      rw [add_eq _ _ (hspot _ hm)]
      simpa using h2)
    simpa using this
theorem run_forIn_runes {w : World} (f : Value → ByteArray → Sem (ForInStep ByteArray))
    (hf : ∀ (n : Int) (r : ByteArray), (f (.int .i32 n) r).run P w = .ok (.yield (r ++ Utf8.encode n)) w) :
    ∀ (ns : List Int) (s : ByteArray), (forIn (ns.map (Value.int .i32)) s f).run P w = .ok (ns.foldl (fun r n => r ++ Utf8.encode n) s) w := by
  intro ns
  induction ns with
  | nil => intro s; simp [Sem.run_pure]
  | cons n ns ih =>
    intro s
    simp only [List.map_cons, List.forIn_cons, Sem.run_bind, hf, Result.andThen, List.foldl_cons]
    exact ih _
theorem run_runesToString (w : World) (a : Addr) (len cap : Nat) (ns : List Int) (h : (loadCells a len).run P w = .ok (ns.map (Value.int .i32)).toArray w) :
    (Conv.runesToString (.slice (some a) len cap)).run P w = .ok (.string (encS ns)) w := by
  unfold Conv.runesToString
  simp only [Sem.run_bind, h, Result.andThen, List.forIn_toArray]
  rw [run_forIn_runes _ (by intro n r; simp [Sem.run_pure])]
  simp [Sem.run_pure, encS]
theorem run_convert_runes_string (w : World) (src dst e : TypeId) (a : Option Addr) (l c : Nat)
    (hs : P.underlying src = some (.slice e)) (he : P.underlying e = some (.int .i32)) (hd : P.underlying dst = some .string) :
    (convert src dst (.slice a l c)).run P w = (Conv.runesToString (.slice a l c)).run P w := by
  simp [convert, run_underlying hs, run_underlying hd, run_underlying he]
theorem ql_runesStr {t d e : TypeId} {x : Operand} {a : AV} {l : List Int} (hx : ρ x = a) (hl : Lend H a (.lst (l.map fun n => .base (.int .i32 n))))
    (hs : P.underlying t = some (.slice e)) (he : P.underlying e = some (.int .i32)) (hd : P.underlying d = some .string) : QL P H ρ (.convert t d x) (.base (.string (encS l))) := by
  refine QL.of_run fun w0 O ι A w hsit hv o ho => ?_
  have h1 := hv x (by simp [Op.operands])
  rw [hx] at h1
  have h2 := hl _ _ _ _ _ hsit h1
  refine ⟨_, ?_, .base _⟩
  rcases lst_load (P := P) h2 with ⟨h3, rfl⟩ | ⟨ad, c, h3, h4⟩
  · simp [execOp, ho, h3, run_convert_runes_string w t d e none 0 0 hs he hd, Conv.runesToString, encS]
  · simp [execOp, ho, h3, run_convert_runes_string w t d e (some ad) l.length c hs he hd, run_runesToString w ad l.length c l h4]
theorem ql_bytesStrL {t d e : TypeId} {x : Operand} {a : AV} {l : List Int} (hx : ρ x = a) (hl : Lend H a (.lst (l.map fun n => .base (.int .u8 n))))
    (hs : P.underlying t = some (.slice e)) (he : P.underlying e = some (.int .u8)) (hd : P.underlying d = some .string) : QL P H ρ (.convert t d x) (.base (.string ⟨(l.map fun n => UInt8.ofNat n.toNat).toArray⟩)) := by
  refine QL.of_run fun w0 O ι A w hsit hv o ho => ?_
  have h1 := hv x (by simp [Op.operands])
  rw [hx] at h1
  have h2 := hl _ _ _ _ _ hsit h1
  have key : ∀ (l : List Int) (s : ByteArray), l.foldl (fun r n => r.push (UInt8.ofNat n.toNat)) s = ⟨(s.data.toList ++ l.map fun n => UInt8.ofNat n.toNat).toArray⟩ := by
    intro l
    induction l with
    | nil => intro s; simp
    | cons c l ih => intro s; rw [List.foldl_cons, ih]; simp [ByteArray.push]
  refine ⟨_, ?_, .base _⟩
  rcases lst_load (P := P) h2 with ⟨h3, rfl⟩ | ⟨ad, c, h3, h4⟩
  · simp [execOp, ho, h3, run_convert_bytes_string w t d e none 0 0 hs he hd, Conv.bytesToString]
    rfl
  · have h5 := run_bytesToString (P := P) w ad l.length c l h4
    rw [key] at h5
    simp [execOp, ho, h3, run_convert_bytes_string w t d e (some ad) l.length c hs he hd, h5]
end
end Go.Ab
namespace Go.Ab
open Go Go.RowKit
theorem peekQ {P : Program} {n : Fr} {c : Code} {Q : Exit → ASt → Prop} {s : ASt} (h : ∀ Q', AWp P n c Q' s) : AWp P n c Q s := h Q
theorem peekR {P : Program} {n : Fr} {q : Bool} {l : List LOp} {K : ASt → Prop} {s : ASt} (h : ∀ K', ARun P n q l K' s) : ARun P n q l K s := h K
end Go.Ab
namespace Go.Ab
open Go Go.RowKit

section
variable {P : Program} {H : List ABlk} {ρ : Operand → AV}
theorem ql_slice_own {t el : TypeId} {x : Operand} {lo hi : Option Operand} {b tot off len l h : Nat} {blk : ABlk} (hx : ρ x = .own b tot off len) (ht : P.underlying t = some (.slice el)) (hb : H[b]? = some blk) (htot : blk.es.length = tot)
    (hlo : bnd ρ 0 lo = some l) (hhi : bnd ρ len hi = some h) (hlh : l ≤ h) (hh : h ≤ len) (hsz : szTy P el = some blk.sz) : QL P H ρ (.slice t x lo hi none) (.own b tot (off + l) (h - l)) := by
  refine QL.of_run fun w0 O ι a w hs hv o ho => ?_
  have h1 := hv x (by simp [Op.operands])
  have hv2 : ∀ y, (lo = some y ∨ hi = some y) → VR w (OO O ι H) ι H (ρ y) (a.eval y) := by
    rintro y (rfl | rfl) <;> exact hv y (by simp [Op.operands])
  rw [hx] at h1
  generalize hX : a.eval x = X at h1
  cases h1 with
  | staleOwn b tot off len blk' ad n c hb' hlt => rw [hb] at hb'; cases hb'; omega
  | ownNil b blk' hb' he hi' =>
    have hr := sliceBounds_run (P := P) (cap := 0) (isSl := true) hv2 hlo hhi hlh (by omega)
    have : l = 0 := by omega
    have : h = 0 := by omega
    subst l; subst h
    refine ⟨.slice none 0 0, ?_, .ownNil b blk' hb' he hi'⟩
    simp only [execOp, ho, hX, Instr.sliceAt, run_underlying ht, Instr.slice, Option.map_none, hr, sizeOf_run hsz, Sem.run_bind, Sem.run_pure, Result.andThen_ok, if_true, Nat.sub_zero]
  | own b tot off len blk' y n cap ad hb' ht' hi' hn hl hcap ha =>
    have hbb := hb'
    rw [hb] at hbb; cases hbb
    subst hn
    have hr := sliceBounds_run (P := P) (cap := cap) (isSl := true) hv2 hlo hhi hlh (by omega)
    by_cases hcl : cap = l
    · refine ⟨.slice (some ad) (h - l) (cap - l), ?_, ?_⟩
      · simp only [execOp, ho, hX, Instr.sliceAt, run_underlying ht, Instr.slice, Option.map_none, hr, sizeOf_run hsz, Sem.run_bind, Sem.run_pure, Result.andThen_ok, if_pos hcl]
      · refine .own b tot (off + l) (h - l) blk y _ _ _ hb' ht' hi' rfl (by omega) (by omega) fun hc => ?_
        obtain ⟨h2, h3, h4⟩ := ha (.inr (by omega))
        have e1 : l = 0 := by omega
        have e2 : off = 0 := by omega
        subst e1; subst e2
        exact ⟨by simpa using h2, by omega, by simpa using h4⟩
    · refine ⟨.slice (some (ad.add (l * blk.sz))) (h - l) (cap - l), ?_, ?_⟩
      · simp only [execOp, ho, hX, Instr.sliceAt, run_underlying ht, Instr.slice, Option.map_none, hr, sizeOf_run hsz, Sem.run_bind, Sem.run_pure, Result.andThen_ok, if_neg hcl, Option.map_some]
      · refine .own b tot (off + l) (h - l) blk y _ _ _ hb' ht' hi' rfl (by omega) (by omega) fun hc => ?_
        obtain ⟨h2, h3, c, ty, fz, h4, h5⟩ := ha (.inl (by omega))
        subst h2
        refine ⟨?_, by omega, c, ty, fz, h4, by rw [← h5]; congr 1; omega⟩
        rw [add_eq _ _ rfl, Nat.add_mul]
end
end Go.Ab
namespace Go.Ab
open Go Go.RowKit
theorem iff_ {P : Program} {n : Fr} {Q : Exit → ASt → Prop} {s : ASt} {b : Bool} {cc : Operand} {x y : Code} (h : AWp P n y Q s) (hb : b = false := by first | rfl | simp) (hc : ev s.env cc = .base (.bool b) := by rfl) : AWp P n (.cond cc x y) Q s := AWp.cond hc (fun h2 => by rw [hb] at h2; cases h2) (fun _ => h)
theorem ift_ {P : Program} {n : Fr} {Q : Exit → ASt → Prop} {s : ASt} {b : Bool} {cc : Operand} {x y : Code} (h : AWp P n x Q s) (hb : b = true := by first | rfl | simp) (hc : ev s.env cc = .base (.bool b) := by rfl) : AWp P n (.cond cc x y) Q s := AWp.cond hc (fun _ => h) (fun h2 => by rw [hb] at h2; cases h2)
theorem iffd_ {P : Program} {n : Fr} {Q : Exit → ASt → Prop} {s : ASt} {p : Prop} [Decidable p] {cc : Operand} {x y : Code} (hc : ev s.env cc = .base (.bool (decide p))) (hp : ¬ p) (h : AWp P n y Q s) : AWp P n (.cond cc x y) Q s := AWp.cond hc (fun h2 => absurd (of_decide_eq_true h2) hp) (fun _ => h)
theorem iftd_ {P : Program} {n : Fr} {Q : Exit → ASt → Prop} {s : ASt} {p : Prop} [Decidable p] {cc : Operand} {x y : Code} (hc : ev s.env cc = .base (.bool (decide p))) (hp : p) (h : AWp P n x Q s) : AWp P n (.cond cc x y) Q s := AWp.cond hc (fun _ => h) (fun h2 => absurd hp (of_decide_eq_false h2))
end Go.Ab
