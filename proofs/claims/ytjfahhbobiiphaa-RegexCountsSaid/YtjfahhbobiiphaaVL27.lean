/- Part of the proof. -/
import Derived.Test.YtjfahhbobiiphaaYR
import Derived.Test.YtjfahhbobiiphaaXL
set_option linter.unusedSimpArgs false
set_option linter.unusedVariables false
set_option maxHeartbeats 4000000
namespace Go.Ab
open Go Go.Ab Go.Proofs Go.Ab.Ty

@[simp] theorem Pu_lst2X (o o' : Int) (S S' : ByteArray) (l l' : List Rx) : Pu (.lst [.agg [.int o, str S, .lst (l.map encX)], .agg [.int o', str S', .lst (l'.map encX)]]) := by
  have := Pu_mapX [.mk o S l, .mk o' S' l']
  rwa [List.map_cons, List.map_cons, List.map_nil, encX_mk, encX_mk] at this
end Go.Ab
