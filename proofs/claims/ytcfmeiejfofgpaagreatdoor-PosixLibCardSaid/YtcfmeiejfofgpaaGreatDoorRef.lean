/- distaffref05.Parse over the library's text: the states at the heads of its loops. -/
import Derived.Test.YtcfmeiejfofgpaaGreatDoorAsm
namespace Go.Proofs.YtcfmeiejfofgpaaGreatDoor
open Go.Ab
set_option maxRecDepth 100000
noncomputable section
def cR : Code := (Tryz.f9.body).getD .skip
def segR : List Code := flatC cR
def bodyR : Code := loopOf segR[6]?
def body2R : Code := loopOf segR[8]?
def gR : Nat → Bool := inMask (Nat.lor (expoC cR) (expoV Tryz.f9.results.toList))
def fR : E3 → AHeap → (E3 → AHeap → OutK) → OutK := (codeK Tryz.prog 5 X call0 gR 100000 bodyR).run
def f2R : E3 → AHeap → (E3 → AHeap → OutK) → OutK := (codeK Tryz.prog 5 X call0 gR 100000 body2R).run
def psR0 : List Path := [.env 5]
def psR : List Path := [.env 5, .cell 0 0, .cell 0 1, .cell 0 2, .cell 0 3]
def labsR (nl : Nat) : List CO := [.cells ((labR.take nl).flatMap fun p => [.string (bs p.1), i64 p.2.1]) 77, .cells ((labR.take nl).map fun p => i64 p.2.2) 3]
def wantsR (nw : Nat) : List CO := [.cells ((wantR.take nw).flatMap fun p => [i64 p.2.1, i64 p.1, .string (bs p.2.2)]) 75]
def pR (n nl nw k : Nat) : CO := .cells [slcV 6 n, slcV 7 nl, slcV 8 nl, slcV 9 nw, i64 k] 70
def stR0 : CS := ⟨[(0, txV), (5, ptrV 5), (6, i64 0), (7, i64 0)], [pR 0 0 0 0]⟩
/-- Behind so many lines, at such a place of the text. -/
def stR (i k n nl nw : Nat) : CS := ⟨[(0, txV), (5, ptrV 5), (6, i64 i), (7, i64 i)], [pR n nl nw k, .cells ((insR.take n).flatMap insV0) 60] ++ labsR nl ++ wantsR nw⟩
/-- Behind so many places that are named: the instructions below one have theirs. -/
def codeW (th : Nat) : CO := .cells (insR.zipIdx.flatMap fun p => cond (Nat.blt p.2 th) (insV p.1) (insV0 p.1)) 60
def stV : CS := ⟨[(5, ptrV 5)], [pR 818 140 271 958, codeW 0] ++ labsR 140 ++ wantsR 271⟩
def stW (j th : Nat) : CS := ⟨[(5, ptrV 5), (10, i64 j)], [pR 818 140 271 958, codeW th] ++ labsR 140 ++ wantsR 271⟩
def stW9 : CS := ⟨[(5, ptrV 5)], [pR 818 140 271 958, codeW 818] ++ labsR 140 ++ wantsR 271⟩
def preR : List Code := segR.take 6
def midR : List Code := (segR.drop 7).take 1
def postR : List Code := segR.drop 9
def fR1 : E3 → AHeap → (E3 → AHeap → OutK) → OutK := (codeK Tryz.prog 5 X call0 gR 100000 (seqOf preR)).run
def fR2 : E3 → AHeap → (E3 → AHeap → OutK) → OutK := (codeK Tryz.prog 5 X call0 gR 100000 (seqOf midR)).run
def fR3 : E3 → AHeap → (E3 → AHeap → OutK) → OutK := (codeK Tryz.prog 5 X call0 gR 100000 (seqOf postR)).run
def resR : Value := .tuple #[slcV 5 818, slcV 6 140, .pointer none]
def stRZ : CS := ⟨[], [.cells (insR.flatMap insV) 60, .cells (labR.flatMap fun p => [.string (bs p.1), i64 p.2.1]) 77]⟩
end
end Go.Proofs.YtcfmeiejfofgpaaGreatDoor
