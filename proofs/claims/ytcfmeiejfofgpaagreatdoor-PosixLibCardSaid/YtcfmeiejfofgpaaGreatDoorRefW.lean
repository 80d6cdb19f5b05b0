/- distaffref05.Parse over the library's text: the places that are named. -/
import Derived.Test.YtcfmeiejfofgpaaGreatDoorRef
namespace Go.Proofs.YtcfmeiejfofgpaaGreatDoor
open Go.Ab
set_option maxRecDepth 100000
noncomputable section
theorem want0 : chunkB 5 gR f2R psR (stW 0 0) 90 (stW 90 315) = true := by kernel_rfl
theorem want90 : chunkB 5 gR f2R psR (stW 90 315) 90 (stW 180 597) = true := by kernel_rfl
theorem wantL : leaveB 5 gR f2R 100000 2 psR (stW 180 597) stW9 = true := by kernel_rfl
end
end Go.Proofs.YtcfmeiejfofgpaaGreatDoor
