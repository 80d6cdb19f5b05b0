/- kern.New: the machine's code and calls are copied: the second histories. -/
import Derived.Test.YtjfohamkkmopgaaGreatDoorKernD
namespace Go.Proofs.YtjfohamkkmopgaaGreatDoor
open Go.Ab Go
set_option maxRecDepth 100000
set_option linter.unusedSectionVars false
noncomputable section
variable (d : Den) (p : Nat)
theorem kd174 : letI := deI d p; dN2 [1, 7, 4] = true := by kernel_rfl
theorem kd170 : letI := deI d p; dN2 [1, 7, 10] = true := by kernel_rfl
theorem kd17r : letI := deI d p; ((List.range 15).all fun j => Nat.beq j 4 || (Nat.beq j 10 || dN2 [1, 7, j])) = true := by kernel_rfl
theorem kd1r : letI := deI d p; ((List.range 15).all fun j => Nat.beq j 4 || (Nat.beq j 7 || dN2 [1, j])) = true := by kernel_rfl
end
end Go.Proofs.YtjfohamkkmopgaaGreatDoor
