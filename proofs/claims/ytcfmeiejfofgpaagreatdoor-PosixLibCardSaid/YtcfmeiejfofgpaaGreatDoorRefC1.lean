/- distaffref05.Parse over the library's text, part by part. -/
import Derived.Test.YtcfmeiejfofgpaaGreatDoorRef
namespace Go.Proofs.YtcfmeiejfofgpaaGreatDoor
open Go.Ab
set_option maxRecDepth 100000
noncomputable section
theorem ref240 : chunkB 5 gR fR psR (stR 2619 240 201 39 52) 807 (stR 3426 320 268 52 73) = true := by kernel_rfl
theorem ref320 : chunkB 5 gR fR psR (stR 3426 320 268 52 73) 826 (stR 4252 400 336 64 97) = true := by kernel_rfl
theorem ref400 : chunkB 5 gR fR psR (stR 4252 400 336 64 97) 797 (stR 5049 480 403 77 109) = true := by kernel_rfl
end
end Go.Proofs.YtcfmeiejfofgpaaGreatDoor
