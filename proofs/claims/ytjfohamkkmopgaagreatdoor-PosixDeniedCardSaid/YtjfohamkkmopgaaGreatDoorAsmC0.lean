/- asm.Parse over the library's text, part by part. -/
import Derived.Test.YtjfohamkkmopgaaGreatDoorData
namespace Go.Proofs.YtjfohamkkmopgaaGreatDoor
open Go.Ab
set_option maxRecDepth 100000
noncomputable section
variable [Sg]
theorem asm0 : chunkB 5 gA fA psA stA0 120 (stA 120 104 16 18) = true := by kernel_rfl
theorem asm120 : chunkB 5 gA fA psA (stA 120 104 16 18) 120 (stA 240 201 39 52) = true := by kernel_rfl
end
end Go.Proofs.YtjfohamkkmopgaaGreatDoor
