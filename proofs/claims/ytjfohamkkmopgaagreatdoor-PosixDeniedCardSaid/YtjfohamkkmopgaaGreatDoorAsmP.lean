/- asm.Parse over the library's text: ahead of the loop, and behind it. -/
import Derived.Test.YtjfohamkkmopgaaGreatDoorData
namespace Go.Proofs.YtjfohamkkmopgaaGreatDoor
open Go.Ab
set_option maxRecDepth 100000
noncomputable section
variable [Sg]
theorem asmPre : reachB 5 gA fA1 psA0 stA00 stA0 = true := by kernel_rfl
theorem asmFin : finB Tryz.prog 5 gA fA2 Tryz.f33.results.toList [.res 0, .res 1] stB resA stAZ = true := by kernel_rfl
end
end Go.Proofs.YtjfohamkkmopgaaGreatDoor
