/- posix.Lib: what it gives. -/
import Derived.Test.YtjfohamkkmopgaaGreatDoorAsmT
namespace Go.Proofs.YtjfohamkkmopgaaGreatDoor
set_option linter.unusedVariables false
set_option linter.unusedSimpArgs false
set_option linter.unusedSectionVars false
open Go.Ab Go.Extern
set_option maxRecDepth 100000
variable [Sg]
theorem libFin : finG Tryz.prog 5 gL (codeK Tryz.prog 5 X callBK gL 100000 (seqOf (flatC cL))).run Tryz.f17.results.toList nmLib ⟨[], []⟩ resL stLib = true := by kernel_rfl
end Go.Proofs.YtjfohamkkmopgaaGreatDoor
