/- kern.New: the machine's code and calls are copied: the other histories. -/
import Derived.Test.YtjfohamkkmopgaaGreatDoorKernD
namespace Go.Proofs.YtjfohamkkmopgaaGreatDoor
open Go.Ab Go
set_option maxRecDepth 100000
set_option linter.unusedSectionVars false
noncomputable section
variable (d : Den) (p : Nat)
theorem kd714 : letI := deI d p; dN2 [7, 1, 4] = true := by kernel_rfl
theorem kd71t : letI := deI d p; dN2 [7, 1, 10] = true := by kernel_rfl
theorem kd71r : letI := deI d p; ((List.range 15).all fun j => Nat.beq j 4 || (Nat.beq j 10 || dN2 [7, 1, j])) = true := by kernel_rfl
theorem kd7r : letI := deI d p; ((List.range 15).all fun j => Nat.beq j 1 || (Nat.beq j 10 || dN2 [7, j])) = true := by kernel_rfl
theorem kdr : letI := deI d p; ((List.range 15).all fun j => Nat.beq j 1 || (Nat.beq j 7 || dN2 [j])) = true := by kernel_rfl
end
end Go.Proofs.YtjfohamkkmopgaaGreatDoor
