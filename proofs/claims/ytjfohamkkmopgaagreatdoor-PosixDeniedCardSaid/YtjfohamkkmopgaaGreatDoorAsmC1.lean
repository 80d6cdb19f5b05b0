/- asm.Parse over the library's text, part by part. -/
import Derived.Test.YtjfohamkkmopgaaGreatDoorData
namespace Go.Proofs.YtjfohamkkmopgaaGreatDoor
open Go.Ab
set_option maxRecDepth 100000
noncomputable section
variable [Sg]
theorem asm240 : chunkB 5 gA fA psA (stA 240 201 39 52) 120 (stA 360 302 58 87) = true := by kernel_rfl
theorem asm360 : chunkB 5 gA fA psA (stA 360 302 58 87) 120 (stA 480 403 77 109) = true := by kernel_rfl
end
end Go.Proofs.YtjfohamkkmopgaaGreatDoor
