/- Operations in a row. -/
import Derived.Test.YtpehmmdbjakkpaaGreatResTy
import Derived.Test.YtpehmmdbjakkpaaGreatApplyLaw
import Derived.Test.YtpehmmdbjakkpaaGreatSchedV
import Derived.Test.YtpehmmdbjakkpaaGreatTakesA
import Derived.Test.YtpehmmdbjakkpaaGreatAddM
namespace Go.Proofs.YtpehmmdbjakkpaaGreat
open Go.RowKit Go.Shelf
set_option linter.unusedSimpArgs false
set_option linter.unusedVariables false
def OpD.cells (v : OpD) : List Value := [.int .i64 v.k, .int .i64 v.a, .int .i64 v.b, .int .i64 v.p, .int .i64 v.v]
end Go.Proofs.YtpehmmdbjakkpaaGreat
