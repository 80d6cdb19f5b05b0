/- 300 Picks, part by part. -/
import Derived.Test.YtjfohamkkmopgaaGreatDoorPickD
namespace Go.Proofs.YtjfohamkkmopgaaGreatDoor
open Go.Ab Go
set_option maxRecDepth 100000
set_option linter.unusedSectionVars false
noncomputable section
variable (d : Den) (p : Nat)
theorem pk50 : letI := deI d p; chunkB 5 gD fD pP100 stP50 50 stP100 = true := by kernel_rfl
end
end Go.Proofs.YtjfohamkkmopgaaGreatDoor
