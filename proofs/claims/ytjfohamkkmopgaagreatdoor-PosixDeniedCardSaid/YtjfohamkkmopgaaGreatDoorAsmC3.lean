/- asm.Parse over the library's text, part by part. -/
import Derived.Test.YtjfohamkkmopgaaGreatDoorData
namespace Go.Proofs.YtjfohamkkmopgaaGreatDoor
open Go.Ab
set_option maxRecDepth 100000
noncomputable section
variable [Sg]
theorem asm720 : chunkB 5 gA fA psA (stA 720 613 107 186) 120 (stA 840 716 124 230) = true := by kernel_rfl
theorem asmL : leaveB 5 gA fA 100000 0 psB (stA 840 716 124 230) stB = true := by kernel_rfl
end
end Go.Proofs.YtjfohamkkmopgaaGreatDoor
