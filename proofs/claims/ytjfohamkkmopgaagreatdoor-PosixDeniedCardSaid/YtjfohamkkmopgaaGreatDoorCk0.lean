/- code.Check over the library's code, part by part. -/
import Derived.Test.YtjfohamkkmopgaaGreatDoorKit
namespace Go.Proofs.YtjfohamkkmopgaaGreatDoor
open Go.Ab
set_option maxRecDepth 100000
set_option linter.unusedSectionVars false
noncomputable section
variable [Sg]
theorem ck0 : chunkN 5 6 gK fK1 [.lit 5] (stK 0) 210 (stK 210) = true := by kernel_rfl
theorem ck210 : chunkN 5 6 gK fK1 [.lit 5] (stK 210) 210 (stK 420) = true := by kernel_rfl
end
end Go.Proofs.YtjfohamkkmopgaaGreatDoor
