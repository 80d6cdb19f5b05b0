/- kern.New: its last parts. -/
import Derived.Test.YtjfohamkkmopgaaGreatDoorKernD
namespace Go.Proofs.YtjfohamkkmopgaaGreatDoor
open Go.Ab Go
set_option maxRecDepth 100000
set_option linter.unusedSectionVars false
noncomputable section
variable (d : Den) (p : Nat)
theorem k5 : letI := deI d p; reachB 5 gN fN5 pN5 stN4 stN5 = true := by kernel_rfl
theorem k6 : letI := deI d p; reachB 5 gN fN6 pN6 stN5 stN6 = true := by kernel_rfl
theorem k7 : letI := deI d p; reachB 5 gN fN7 pN7 stN6 stN7 = true := by kernel_rfl
theorem kFin : letI := deI d p; finB Tryz.prog 5 gN fN2 Tryz.f18.results.toList pN9 stN7 uN stN9 = true := by kernel_rfl
end
end Go.Proofs.YtjfohamkkmopgaaGreatDoor
