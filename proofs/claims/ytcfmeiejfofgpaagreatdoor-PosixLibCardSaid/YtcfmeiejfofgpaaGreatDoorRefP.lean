/- distaffref05.Parse over the library's text: ahead of the loops, between them, behind them. -/
import Derived.Test.YtcfmeiejfofgpaaGreatDoorRef
namespace Go.Proofs.YtcfmeiejfofgpaaGreatDoor
open Go.Ab
set_option maxRecDepth 100000
noncomputable section
theorem refPre : reachB 5 gR fR1 psR0 stA00 stR0 = true := by kernel_rfl
theorem refMid : reachB 5 gR fR2 psR stV (stW 0 0) = true := by kernel_rfl
theorem refFin : finB Tryz.prog 5 gR fR3 Tryz.f9.results.toList [.res 0, .res 1] stW9 resR stRZ = true := by kernel_rfl
end
end Go.Proofs.YtcfmeiejfofgpaaGreatDoor
