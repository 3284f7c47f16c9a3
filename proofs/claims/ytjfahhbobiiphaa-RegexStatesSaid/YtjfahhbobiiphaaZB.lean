/- Part of the proof. -/
import Derived.Test.YtjfahhbobiiphaaZA
set_option linter.unusedSimpArgs false
set_option linter.unusedVariables false
set_option maxHeartbeats 4000000
namespace Go.Ab
open Go Go.Ab Go.Proofs
theorem mchR_ok {r : Rx} (hw : r.wf) (hx : r.fixed) : MbOk (gK (setsR r)) (gsB (keyB (setsR r))).length (lng r) (mchR r) := (mcR_ok r hw hx.2 fun S h => h).1
theorem sts_eq {r : Rx} (hv : r.valid) (hx : r.fixed) : stsV r = stsR r := by
  obtain ⟨hc, hf⟩ := hx
  have hb := mchR_ok hv.2 ⟨hc, hf⟩
  have hal := hb.gm.al
  obtain ⟨m0, h0⟩ := madeR_small hv.2 (lvs_14 hv.2 hc) hf
  have hk := (madeR_ok hv.2 (Nat.le_trans (lvs_14 hv.2 hc) (by decide)) h0).1
  unfold stsV stsR
  rw [if_pos hv]
  have hlo : loR r = leastR m0 := by unfold loR; rw [h0]; rfl
  rw [hlo]
  rcases h1 : leastR m0 with _ | m
  · have := leastR_none hk h1 hb.lm
    rw [if_pos (by omega)]
  · obtain ⟨k1, k2, k3⟩ := leastR_ok hk h1
    have := k2.size hb.lm
    rw [if_neg (by omega)]
    simp only
    rw [this, hal]
end Go.Ab
