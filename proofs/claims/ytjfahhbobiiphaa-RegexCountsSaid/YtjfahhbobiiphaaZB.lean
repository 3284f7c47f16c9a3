/- Part of the proof. -/
import Derived.Test.YtjfahhbobiiphaaZA
set_option linter.unusedSimpArgs false
set_option linter.unusedVariables false
set_option maxHeartbeats 4000000
namespace Go.Ab
open Go Go.Ab Go.Proofs
theorem mchR_ok {r : Rx} (hw : r.wf) (hx : r.fixed) : MbOk (gK (setsR r)) (gsB (keyB (setsR r))).length (lng r) (mchR r) := (mcR_ok r hw hx.2 fun S h => h).1
end Go.Ab
