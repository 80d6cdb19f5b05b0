/- 300 Picks, part by part. -/
import Derived.Test.YtjfohamkkmopgaaGreatDoorPickD
namespace Go.Proofs.YtjfohamkkmopgaaGreatDoor
open Go.Ab Go
set_option maxRecDepth 100000
set_option linter.unusedSectionVars false
noncomputable section
variable (d : Den) (p : Nat)
theorem pk250 : letI := deI d p; chunkB 5 gD fD pP300 stP250 50 stP300 = true := by kernel_rfl
theorem pkL : letI := deI d p; leaveB 5 gD fD 100000 2 pP300 stP300 stE = true := by kernel_rfl
end
end Go.Proofs.YtjfohamkkmopgaaGreatDoor
