/- asm.Parse over the library's text, part by part. -/
import Derived.Test.YtjfohamkkmopgaaGreatDoorData
namespace Go.Proofs.YtjfohamkkmopgaaGreatDoor
open Go.Ab
set_option maxRecDepth 100000
noncomputable section
variable [Sg]
theorem asm480 : chunkB 5 gA fA psA (stA 480 403 77 109) 120 (stA 600 507 93 147) = true := by kernel_rfl
theorem asm600 : chunkB 5 gA fA psA (stA 600 507 93 147) 120 (stA 720 613 107 186) = true := by kernel_rfl
end
end Go.Proofs.YtjfohamkkmopgaaGreatDoor
