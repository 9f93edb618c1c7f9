/- The examples of chapter 13 hold. -/
import Derived.Test.YtjodlfhkabploaaDoorHA
set_option linter.unusedVariables false
namespace Go.Ab
open Go Go.Proofs
theorem aw13_pw : Pw cx 18 [] (.bool true) := Pw.of_ev (n := 150) rfl (by kernel_rfl)
end Go.Ab
