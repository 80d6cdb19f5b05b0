/- The law on the library, evaluated. -/
import Derived.Test.YtcfmeiejfofgpaaGreatDoorLibD
namespace Go.Proofs.YtcfmeiejfofgpaaGreatDoor
set_option linter.unusedVariables false
set_option linter.unusedSimpArgs false
set_option linter.unusedSectionVars false
open Go.Ab Go.Extern
set_option maxRecDepth 100000
theorem law_run : gives (callT 3 [] (heap0 5 gl)) (.bool true) = true := by kernel_rfl
end Go.Proofs.YtcfmeiejfofgpaaGreatDoor
