/- The law: from its start to its rounds. -/
import Derived.Test.YtjfohamkkmopgaaGreatDoorLawD
namespace Go.Proofs.YtjfohamkkmopgaaGreatDoor
open Go.Ab Go
set_option maxRecDepth 100000
set_option linter.unusedSectionVars false
noncomputable section
variable (d : Den) (p : Nat)
theorem lA2 : letI := deI d p; reachB 5 gD (fL0 kindsA) pP0 (stD0 (sy 2)) (stD1 (u64 22)) = true := by kernel_rfl
theorem lA5 : letI := deI d p; reachB 5 gD (fL0 kindsA) pP0 (stD0 (sy 5)) (stD1 (u64 22)) = true := by kernel_rfl
end
end Go.Proofs.YtjfohamkkmopgaaGreatDoor
