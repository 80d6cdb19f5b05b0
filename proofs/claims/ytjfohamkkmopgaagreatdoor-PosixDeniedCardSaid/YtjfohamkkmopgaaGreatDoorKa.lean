/- kern.New: the machine's code and calls are copied: the first histories. -/
import Derived.Test.YtjfohamkkmopgaaGreatDoorKernD
namespace Go.Proofs.YtjfohamkkmopgaaGreatDoor
open Go.Ab Go
set_option maxRecDepth 100000
set_option linter.unusedSectionVars false
noncomputable section
variable (d : Den) (p : Nat)
theorem kd14 : letI := deI d p; dN2 [1, 4] = true := by kernel_rfl
theorem kd710 : letI := deI d p; dN2 [7, 10] = true := by kernel_rfl
end
end Go.Proofs.YtjfohamkkmopgaaGreatDoor
