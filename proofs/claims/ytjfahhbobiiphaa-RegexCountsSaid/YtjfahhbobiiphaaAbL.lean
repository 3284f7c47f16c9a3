/- Characters and bytes, turned into a string. -/
import Derived.Test.YtjfahhbobiiphaaAbI
import Derived.Test.YtjfahhbobiiphaaAbF
set_option linter.unusedSimpArgs false
set_option linter.unusedVariables false
namespace Go.Ab
open Go Go.RowKit

section
variable {P : Program} {H : List ABlk} {ρ : Operand → AV}
theorem lst_load {w : World} {O : Nat → Prop} {ι : Nat → Option Nat} {H : List ABlk} {l : List Int} {k : IntKind} {v : Value} (h : VR w O ι H (.lst (l.map fun n => .base (.int k n))) v) :
    (v = .slice none 0 0 ∧ l = []) ∨ ∃ a c, v = .slice (some a) l.length c ∧ (loadCells a l.length).run P w = .ok (l.map (Value.int k)).toArray w := by
  generalize hL : l.map (fun n => AV.base (.int k n)) = L at h
  cases h with
  | lnil => exact .inl ⟨rfl, List.map_eq_nil_iff.1 hL⟩
  | lst es a n cap s val hn hcap hmax hlen hspot hc hv =>
    subst hL
    simp only [List.length_map] at hn
    subst hn
    refine .inr ⟨a, cap, rfl, ?_⟩
    have := run_loadCells_list (P := P) w a (l.map (Value.int k)) (fun j v hj => by
      rw [List.getElem?_map, Option.map_eq_some_iff] at hj
      obtain ⟨x, hx, rfl⟩ := hj
      have he : (l.map fun n => AV.base (.int k n))[j]? = some (.base (.int k x)) := by rw [List.getElem?_map, hx]; rfl
      have hm := List.mem_of_getElem? he
      have h1 := hlen _ hm
      simp [AV.cells] at h1
      subst h1
      obtain ⟨_, h2⟩ := hc j 0 _ (.base (.int k x)) he rfl
      have h3 := (hv j 0 _ (.base (.int k x)) he rfl).base_inv
      rw [h3] at h2
      rw [add_eq _ _ (hspot _ hm)]
      simpa using h2)
    simpa using this
theorem ql_bytesStrL {t d e : TypeId} {x : Operand} {a : AV} {l : List Int} (hx : ρ x = a) (hl : Lend H a (.lst (l.map fun n => .base (.int .u8 n))))
    (hs : P.underlying t = some (.slice e)) (he : P.underlying e = some (.int .u8)) (hd : P.underlying d = some .string) : QL P H ρ (.convert t d x) (.base (.string ⟨(l.map fun n => UInt8.ofNat n.toNat).toArray⟩)) := by
  refine QL.of_run fun w0 O ι A w hsit hv o ho => ?_
  have h1 := hv x (by simp [Op.operands])
  rw [hx] at h1
  have h2 := hl _ _ _ _ _ hsit h1
  have key : ∀ (l : List Int) (s : ByteArray), l.foldl (fun r n => r.push (UInt8.ofNat n.toNat)) s = ⟨(s.data.toList ++ l.map fun n => UInt8.ofNat n.toNat).toArray⟩ := by
    intro l
    induction l with
    | nil => intro s; simp
    | cons c l ih => intro s; rw [List.foldl_cons, ih]; simp [ByteArray.push]
  refine ⟨_, ?_, .base _⟩
  rcases lst_load (P := P) h2 with ⟨h3, rfl⟩ | ⟨ad, c, h3, h4⟩
  · simp [execOp, ho, h3, run_convert_bytes_string w t d e none 0 0 hs he hd, Conv.bytesToString]
    rfl
  · have h5 := run_bytesToString (P := P) w ad l.length c l h4
    rw [key] at h5
    simp [execOp, ho, h3, run_convert_bytes_string w t d e (some ad) l.length c hs he hd, h5]
end
end Go.Ab
namespace Go.Ab
open Go Go.RowKit
end Go.Ab
namespace Go.Ab
open Go Go.RowKit
theorem iff_ {P : Program} {n : Fr} {Q : Exit → ASt → Prop} {s : ASt} {b : Bool} {cc : Operand} {x y : Code} (h : AWp P n y Q s) (hb : b = false := by first | rfl | simp) (hc : ev s.env cc = .base (.bool b) := by rfl) : AWp P n (.cond cc x y) Q s := AWp.cond hc (fun h2 => by rw [hb] at h2; cases h2) (fun _ => h)
theorem ift_ {P : Program} {n : Fr} {Q : Exit → ASt → Prop} {s : ASt} {b : Bool} {cc : Operand} {x y : Code} (h : AWp P n x Q s) (hb : b = true := by first | rfl | simp) (hc : ev s.env cc = .base (.bool b) := by rfl) : AWp P n (.cond cc x y) Q s := AWp.cond hc (fun _ => h) (fun h2 => by rw [hb] at h2; cases h2)
end Go.Ab
