import Derived.Test.YthjeoagadjdilaaAW22
namespace Go.Ab
open Go Go.Ab Go.Proofs Go.Ab.Ty
set_option linter.unusedSimpArgs false
set_option linter.unusedVariables false

instance (s : Stp) : Decidable (noneT s) := by unfold noneT; infer_instance
instance (l : Lk) (i : Int) (s : Stp) : Decidable (spawn l i s) := by unfold spawn; infer_instance
set_option synthInstance.maxSize 4000 in
set_option synthInstance.maxHeartbeats 400000 in
instance (l : Lk) (i : Int) (s : Stp) : Decidable (okStep l i s) := by unfold okStep; infer_instance
instance (l : Lk) : Decidable (okCode l) := by unfold okCode; infer_instance
instance (p : Tk) : Decidable (okValid p) := by unfold okValid; infer_instance
theorem aV1 : okValid aP1 := by decide
theorem aV2 : okValid aP2 := by decide
theorem dupl1 (r : Rg) (x : Int) : ¬ dupl r [x] := by
  rintro ⟨i, j, hi, hj, _⟩
  simp at hi; omega
theorem wI (x : Int) (h1 : -9223372036854775808 ≤ x) (h2 : x ≤ 9223372036854775807) : IntKind.i64.wrap x = x := wrap_id h1 h2
theorem w1 : IntKind.i64.wrap 1 = 1 := by decide
theorem w2 : IntKind.i64.wrap 2 = 2 := by decide
theorem aE1 : numsF aP1 (nums aP1) = (0, 4, 220) := by
  have hn : nums aP1 = [0, 1] := by decide
  rw [hn]
  have : codeF aP1 0 = some (4, 220) := by
    simp [codeF, codeOf, cod, nth, aP1, startF, startN, stepsF, aS1, aS2, aS3, aS4, aS5, afterE, afterR, freshR, start0, w1, w2, mustF, updI, joinF, joinO, joinN, repl, sendE, sendR, dupl1, goneF]
  simp [numsF, this]
theorem aE2 : numsF aP2 (nums aP2) = (0, 0, 0) := by
  have hn : nums aP2 = [0, 1] := by decide
  rw [hn]
  have h0 : codeF aP2 0 = none := by
    simp [codeF, codeOf, cod, nth, aP2, startF, startN, stepsF, aS1, aS2, aS3, aS4, aS5, afterE, afterR, freshR, start0, w1, w2, mustF, updI, joinF, joinO, joinN, repl, sendE, sendR, dupl1, goneF]
  have h1 : codeF aP2 1 = none := by
    simp [codeF, codeOf, cod, nth, aP2, startF, startN, stepsF]
  simp [numsF, h0, h1]
theorem awake_true : Fn Try.prog 11 [] (.bool true) := awake_ok aV1 aV2 aE1 aE2
end Go.Ab
