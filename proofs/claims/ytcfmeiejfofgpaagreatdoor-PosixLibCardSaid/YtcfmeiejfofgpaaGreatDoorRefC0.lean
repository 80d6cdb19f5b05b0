/- distaffref05.Parse over the library's text, part by part. -/
import Derived.Test.YtcfmeiejfofgpaaGreatDoorRef
namespace Go.Proofs.YtcfmeiejfofgpaaGreatDoor
open Go.Ab
set_option maxRecDepth 100000
noncomputable section
theorem ref0 : chunkB 5 gR fR psR stR0 973 (stR 973 80 70 10 10) = true := by kernel_rfl
theorem ref80 : chunkB 5 gR fR psR (stR 973 80 70 10 10) 858 (stR 1831 160 135 25 32) = true := by kernel_rfl
theorem ref160 : chunkB 5 gR fR psR (stR 1831 160 135 25 32) 788 (stR 2619 240 201 39 52) = true := by kernel_rfl
end
end Go.Proofs.YtcfmeiejfofgpaaGreatDoor
