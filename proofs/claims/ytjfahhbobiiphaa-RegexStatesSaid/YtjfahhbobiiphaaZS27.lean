/- The arguments of the laws as they are read. -/
import Derived.Test.YtjfahhbobiiphaaXA
set_option linter.unusedSimpArgs false
set_option linter.unusedVariables false
namespace Go.Ab
open Go Go.Ab Go.Proofs Go.Ab.Ty
end Go.Ab
