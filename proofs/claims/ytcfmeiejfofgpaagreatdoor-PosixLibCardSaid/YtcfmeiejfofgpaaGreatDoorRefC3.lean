/- distaffref05.Parse over the library's text, part by part. -/
import Derived.Test.YtcfmeiejfofgpaaGreatDoorRef
namespace Go.Proofs.YtcfmeiejfofgpaaGreatDoor
open Go.Ab
set_option maxRecDepth 100000
noncomputable section
theorem ref720 : chunkB 5 gR fR psR (stR 7754 720 613 107 186) 870 (stR 8624 800 681 119 213) = true := by kernel_rfl
theorem ref800 : chunkB 5 gR fR psR (stR 8624 800 681 119 213) 867 (stR 9491 880 749 131 247) = true := by kernel_rfl
theorem refL : leaveB 5 gR fR 100000 0 psR (stR 9491 880 749 131 247) stV = true := by kernel_rfl
end
end Go.Proofs.YtcfmeiejfofgpaaGreatDoor
