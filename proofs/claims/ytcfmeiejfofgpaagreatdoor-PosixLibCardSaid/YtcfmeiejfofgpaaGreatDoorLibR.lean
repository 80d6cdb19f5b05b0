/- distaffref24.Lib: what it gives. -/
import Derived.Test.YtcfmeiejfofgpaaGreatDoorLibD
namespace Go.Proofs.YtcfmeiejfofgpaaGreatDoor
set_option linter.unusedVariables false
set_option linter.unusedSimpArgs false
set_option linter.unusedSectionVars false
open Go.Ab Go.Extern
set_option maxRecDepth 100000
theorem refLibFin : finG Tryz.prog 5 gM (codeK Tryz.prog 5 X callBK gM 100000 (seqOf (flatC cM))).run Tryz.f4.results.toList nmLib ⟨[(0, .int .i64 23)], []⟩ libV stLib = true := by kernel_rfl
end Go.Proofs.YtcfmeiejfofgpaaGreatDoor
