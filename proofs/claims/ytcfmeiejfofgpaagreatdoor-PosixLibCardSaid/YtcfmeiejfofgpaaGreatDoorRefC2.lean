/- distaffref05.Parse over the library's text, part by part. -/
import Derived.Test.YtcfmeiejfofgpaaGreatDoorRef
namespace Go.Proofs.YtcfmeiejfofgpaaGreatDoor
open Go.Ab
set_option maxRecDepth 100000
noncomputable section
theorem ref480 : chunkB 5 gR fR psR (stR 5049 480 403 77 109) 853 (stR 5902 560 472 88 129) = true := by kernel_rfl
theorem ref560 : chunkB 5 gR fR psR (stR 5902 560 472 88 129) 888 (stR 6790 640 543 97 160) = true := by kernel_rfl
theorem ref640 : chunkB 5 gR fR psR (stR 6790 640 543 97 160) 964 (stR 7754 720 613 107 186) = true := by kernel_rfl
end
end Go.Proofs.YtcfmeiejfofgpaaGreatDoor
