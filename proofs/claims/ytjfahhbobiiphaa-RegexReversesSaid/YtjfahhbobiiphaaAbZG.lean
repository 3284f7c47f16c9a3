/- Own bytes, turned into a string. -/
import Derived.Laws.BytesString
import Derived.Laws.Cells
import Derived.Test.YtjfahhbobiiphaaAbE
set_option linter.unusedSimpArgs false
set_option linter.unusedVariables false
namespace Go.Ab
open Go Go.RowKit

section
variable {P : Program} {H : List ABlk} {ρ : Operand → AV}
theorem foldl_push : ∀ (l : List UInt8) (s : ByteArray), ((l.map fun c => (c.toNat : Int)).foldl (fun r n => r.push (UInt8.ofNat n.toNat)) s) = ⟨(s.data.toList ++ l).toArray⟩
  | [], s => by simp
  | c :: l, s => by
    rw [List.map_cons, List.foldl_cons, foldl_push l]
    simp [ByteArray.push]
theorem ql_bytesStr {t d e : TypeId} {x : Operand} {b tot ty : Nat} {l : List UInt8} (hx : ρ x = .own b tot 0 tot) (hb : H[b]? = some ⟨ty, 1, l.map fun c => .base (.int .u8 c.toNat)⟩) (htot : l.length = tot)
    (hs : P.underlying t = some (.slice e)) (he : P.underlying e = some (.int .u8)) (hd : P.underlying d = some .string) : QL P H ρ (.convert t d x) (.base (.string ⟨l.toArray⟩)) := by
  refine QL.of_run fun w0 O ι a w hsit hv o ho => ?_
  have h1 := hv x (by simp [Op.operands])
  rw [hx] at h1
  obtain ⟨xs, ⟨hlen, hrow⟩, _, hcell, hsh⟩ := own_row hsit hb (by simpa using htot) h1 (Nat.zero_lt_one)
  have hxs : xs = (l.map fun c => (c.toNat : Int)).map (Value.int .u8) := by
    apply List.ext_getElem?
    intro j
    rcases Nat.lt_or_ge j l.length with hj | hj
    · obtain ⟨u, hu, hvu⟩ := hcell j 0 (.base (.int .u8 (l[j]).toNat)) (.base (.int .u8 (l[j]).toNat)) (by simp [hj]) rfl
      have := hvu.base_inv
      subst this
      simp at hu
      rw [hu]; simp [hj]
    · rw [List.getElem?_eq_none (by rw [hlen]; simpa [← htot] using hj), List.getElem?_eq_none (by simpa using hj)]
  refine ⟨_, ?_, .base _⟩
  rcases hrow with ⟨hv0, h0⟩ | ⟨g, cap, cur, hv0, _, hh, hcap, _, hsz, htk⟩
  · have hl : l = [] := List.eq_nil_of_length_eq_zero (by omega)
    subst hl
    simp [execOp, ho, hv0, run_convert_bytes_string w t d e none 0 0 hs he hd, Conv.bytesToString]
    rfl
  · have hld : (loadCells ⟨g, 0, none⟩ tot).run P w = .ok ((l.map fun c => (c.toNat : Int)).map (Value.int .u8)).toArray w := by
      have := run_loadCells_list (P := P) w ⟨g, 0, none⟩ xs (fun j v hj => by
        have hj' : cur[j]? = some v := by
          rw [← htk, List.getElem?_take] at hj
          split at hj
          · simpa using hj
          · cases hj
        unfold World.cell? Addr.add
        by_cases e0 : j = 0
        · subst e0; simp [hh]; exact hj'
        · simp [e0, hh]; exact hj')
      rw [hlen, hxs] at this
      simpa using this
    have h5 := run_bytesToString (P := P) w ⟨g, 0, none⟩ tot cap (l.map fun c => (c.toNat : Int)) hld
    rw [foldl_push] at h5
    simp [execOp, ho, hv0, run_convert_bytes_string w t d e (some ⟨g, 0, none⟩) tot cap hs he hd, h5]
end
end Go.Ab
