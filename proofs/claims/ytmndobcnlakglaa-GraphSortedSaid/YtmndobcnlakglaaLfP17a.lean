import Derived.Test.YtmndobcnlakglaaLfSh17
import Derived.Test.YtmndobcnlakglaaLfCc
set_option linter.unusedVariables false
namespace Go.Lf.T
open Go Go.Lf
theorem sane17_ok : F67 5000 = some ((true, ()), ()) := by kernel_rfl
end Go.Lf.T
