/- code.Check over the library's code, part by part. -/
import Derived.Test.YtjfohamkkmopgaaGreatDoorKit
namespace Go.Proofs.YtjfohamkkmopgaaGreatDoor
open Go.Ab
set_option maxRecDepth 100000
set_option linter.unusedSectionVars false
noncomputable section
variable [Sg]
theorem ck420 : chunkN 5 6 gK fK1 [.lit 5] (stK 420) 210 (stK 630) = true := by kernel_rfl
theorem ckL : leaveN 5 6 gK fK1 100000 0 [.lit 5] (stK 630) stK9 = true := by kernel_rfl
theorem ckPre : reachN 5 6 gK fK0 [.lit 5] stK0 (stK 0) = true := by kernel_rfl
theorem ckFin : finN Tryz.prog 5 6 gK fK2 Tryz.f124.results.toList [.lit 5] stK9 .nilIface stKZ = true := by kernel_rfl
end
end Go.Proofs.YtjfohamkkmopgaaGreatDoor
