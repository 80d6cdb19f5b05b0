/- The law, where the call has no kinds. -/
import Derived.Test.YtjfohamkkmopgaaGreatDoorLawD
namespace Go.Proofs.YtjfohamkkmopgaaGreatDoor
open Go.Ab Go
set_option maxRecDepth 100000
set_option linter.unusedSectionVars false
noncomputable section
variable (d : Den) (p : Nat)
theorem lC2 : letI := deI d p; finB Tryz.prog 5 gD (fLC kindsC) Tryz.f4.results.toList [] (stD0 (sy 2)) (.bool true) ⟨[], []⟩ = true := by kernel_rfl
theorem lC5 : letI := deI d p; finB Tryz.prog 5 gD (fLC kindsC) Tryz.f4.results.toList [] (stD0 (sy 5)) (.bool true) ⟨[], []⟩ = true := by kernel_rfl
end
end Go.Proofs.YtjfohamkkmopgaaGreatDoor
