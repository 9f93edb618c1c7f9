/- The evaluator over this program; its trees, and their values. -/
import Derived.Test.YtcmcgmcogknpfaaDoorGA
import Derived.Test.YtcmcgmcogknpfaaDoorJE
set_option linter.unusedVariables false
namespace Go.Ab
end Go.Ab
