/- kern.New: its first parts. -/
import Derived.Test.YtjfohamkkmopgaaGreatDoorKernD
namespace Go.Proofs.YtjfohamkkmopgaaGreatDoor
open Go.Ab Go
set_option maxRecDepth 100000
set_option linter.unusedSectionVars false
noncomputable section
variable (d : Den) (p : Nat)
theorem kPre : letI := deI d p; reachB 5 gN fN0 pN1 stN0 stN1 = true := by kernel_rfl
theorem kDraw1 : letI := deI d p; drawB Tryz.prog 5 X call0F opsN1 [3, 4, 5, 10] pN2 stN1 stN2 = true := by kernel_rfl
theorem kMid : letI := deI d p; reachB 5 gN fN1 pN3 stN2 stN3 = true := by kernel_rfl
end
end Go.Proofs.YtjfohamkkmopgaaGreatDoor
