/- The evaluator over this program; its trees, and their values. -/
import Derived.Test.YtjodlfhkabploaaDoorGA
import Derived.Test.YtjodlfhkabploaaDoorJE
set_option linter.unusedVariables false
namespace Go.Ab
end Go.Ab
