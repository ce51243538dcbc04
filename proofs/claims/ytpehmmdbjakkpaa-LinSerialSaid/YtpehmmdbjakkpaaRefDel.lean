/- The reference's Get and Del. -/
import Derived.Test.YtpehmmdbjakkpaaRefB
import Derived.Test.YtpehmmdbjakkpaaOwnSet
namespace Go.Proofs.Ytpehmmdbjakkpaa
open Go.RowKit Go.Shelf
set_option linter.unusedSimpArgs false
set_option linter.unusedVariables false
end Go.Proofs.Ytpehmmdbjakkpaa
