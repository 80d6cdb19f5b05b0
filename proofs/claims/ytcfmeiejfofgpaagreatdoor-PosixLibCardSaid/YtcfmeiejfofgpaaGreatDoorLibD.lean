/- The law on the library: how it is evaluated. -/
import Derived.Test.YtcfmeiejfofgpaaGreatDoorRef
import Derived.Test.YtcfmeiejfofgpaaGreatDoorSpoil
import Derived.Test.YtcfmeiejfofgpaaGreatDoorAbY
namespace Go.Proofs.YtcfmeiejfofgpaaGreatDoor
set_option linter.unusedVariables false
set_option linter.unusedSimpArgs false
set_option linter.unusedSectionVars false
open Go.Ab Go.Extern
set_option maxRecDepth 100000
noncomputable section
/-- The calls: number, place, kinds. -/
def callR : List (Nat × Nat × Nat × Nat × Nat × Nat) := [(1, 223, 0, 0, 0, 0), (2, 246, 0, 0, 0, 0), (3, 256, 0, 0, 0, 0), (4, 284, 0, 0, 0, 0), (5, 299, 0, 0, 0, 0), (6, 302, 0, 0, 0, 0), (7, 307, 0, 0, 0, 0), (8, 304, 0, 0, 0, 0), (10, 321, 0, 0, 0, 0), (11, 346, 1, 0, 0, 0), (12, 351, 1, 0, 0, 0), (13, 398, 1, 0, 0, 0), (14, 352, 1, 0, 0, 0), (15, 418, 1, 0, 0, 0), (20, 449, 0, 0, 0, 0), (21, 460, 2, 0, 0, 0), (22, 471, 2, 0, 0, 0), (23, 491, 2, 0, 0, 0), (24, 472, 2, 0, 0, 0), (25, 501, 2, 0, 0, 0), (26, 517, 2, 0, 0, 0), (30, 520, 0, 0, 0, 0), (31, 527, 3, 0, 0, 0), (40, 556, 0, 0, 0, 0), (41, 568, 4, 0, 0, 0), (42, 576, 4, 0, 0, 0), (50, 603, 0, 0, 0, 0), (51, 614, 5, 0, 0, 0), (52, 637, 5, 0, 0, 0), (53, 662, 5, 0, 0, 0), (54, 638, 5, 0, 0, 0), (55, 668, 5, 0, 0, 0), (56, 693, 5, 0, 0, 0), (57, 669, 5, 0, 0, 0), (58, 701, 5, 0, 0, 0), (60, 749, 0, 0, 0, 0), (61, 756, 6, 0, 0, 0), (62, 765, 6, 1, 0, 0), (63, 766, 6, 1, 0, 0), (64, 796, 6, 0, 0, 0), (65, 811, 6, 0, 0, 0), (70, 176, 7, 0, 0, 0), (71, 184, 7, 0, 0, 0), (72, 191, 7, 0, 7, 0), (73, 197, 7, 0, 7, 0)]
def gl : List (Nat × List Value) := [(0, [.iface 139 (.agg #[typeHandle Tryz.prog 28])])]
/-- The two readings of the text, told. -/
def ts : Tolds := [(13, [txV], resA, stAZ), (9, [txV], resR, stRZ)]
def callZ : ACall := evalF Tryz.prog 5 X (toldF 5 ts) (fun _ => true) 100000 30
def callsV : List Value := callR.flatMap fun p => [i64 p.1, i64 p.2.1, i64 p.2.2.1, i64 p.2.2.2.1, i64 p.2.2.2.2.1, i64 p.2.2.2.2.2]
def libV : Value := .agg #[slcV 5 818, i64 90, slcV 6 45]
def stLib : CS := ⟨[], [.cells (insR.flatMap insV) 60, .cells callsV 34]⟩
def namesOfV (v : Value) : List Nat := match v with
  | .agg ⟨[a, _, c]⟩ => [(nameOf a).getD 0, (nameOf c).getD 0]
  | _ => []
def nmLib (vs : List Value) (_ : E3) (_ : AHeap) : List Nat := match vs with
  | v :: _ => namesOfV v
  | [] => []
def callBK : FuncId → CallC := fnK Tryz.prog 5 X (onceF 5 callZ [(13, [txV]), (9, [txV])]) (fun _ => true) 100000 30
def cL : Code := (Tryz.f5.body).getD .skip
def cM : Code := (Tryz.f4.body).getD .skip
def gL : Nat → Bool := inMask (Nat.lor (expoC cL) (expoV Tryz.f5.results.toList))
def gM : Nat → Bool := inMask (Nat.lor (expoC cM) (expoV Tryz.f4.results.toList))
def resL : Value := .tuple #[libV, .nilIface]
/-- The two libraries, told. -/
def tl : Tolds := [(5, [], resL, stLib), (4, [.int .i64 23], libV, stLib)]
def topO : Orc := fun f => if f = 7 then some spoilO else toldM 5 tl f
def callT : ACall := evalF Tryz.prog 5 X topO (fun _ => true) 100000 30
end
end Go.Proofs.YtcfmeiejfofgpaaGreatDoor
