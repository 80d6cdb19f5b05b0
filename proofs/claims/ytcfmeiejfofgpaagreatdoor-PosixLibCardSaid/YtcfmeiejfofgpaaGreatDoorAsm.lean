/- asm.Parse over the library's text: the states at the head of its loop. -/
import Derived.Test.YtcfmeiejfofgpaaGreatDoorData
namespace Go.Proofs.YtcfmeiejfofgpaaGreatDoor
open Go.Ab
set_option maxRecDepth 100000
noncomputable section
instance theSg : Sg := noSg
def cA : Code := (Tryz.f13.body).getD .skip
def segA : List Code := flatC cA
def loopOf (c : Option Code) : Code := match c with
  | some (.block _ (.loop b)) => b
  | _ => .skip
def bodyA : Code := loopOf segA[6]?
def gA : Nat → Bool := inMask (Nat.lor (expoC cA) (expoV Tryz.f13.results.toList))
def fA : E3 → AHeap → (E3 → AHeap → OutK) → OutK := (codeK Tryz.prog 5 X call0 gA 100000 bodyA).run
def psA0 : List Path := [.env 5, .env 26, .cell 0 3]
def psA : List Path := [.env 5, .env 26, .cell 0 3, .cell 0 0, .cell 0 1, .cell 0 2, .cell 0 4]
def entA (nl : Nat) : List MapEntry := ((labR.take nl).zipIdx).map fun p => ⟨.string (bs p.1.1), i64 p.2, p.2⟩
def readA (n nl nw : Nat) : List Value := [slcV 8 n, slcV 9 nl, slcV 10 nl, .map (some 7), slcV 11 nw]
def arrsA (n nl nw : Nat) : List CO := [.cells ((insR.take n).flatMap insV0) 60, .cells ((labR.take nl).flatMap fun p => [.string (bs p.1), i64 p.2.1]) 87, .cells ((labR.take nl).map fun p => i64 p.2.2) 3,
  .cells ((wantR.take nw).flatMap fun p => [i64 p.1, i64 p.2.1, .string (bs p.2.2)]) 86]
/-- Behind so many lines. -/
def stA0 : CS := ⟨[(5, ptrV 5), (26, slcV 6 959), (27, i64 959), (28, i64 0)], [.cells (readA 0 0 0) 82, .cells linesV 9, .map (entA 0) 0]⟩
def stA (i n nl nw : Nat) : CS := ⟨[(5, ptrV 5), (26, slcV 6 959), (27, i64 959), (28, i64 i)], [.cells (readA n nl nw) 82, .cells linesV 9, .map (entA nl) nl] ++ arrsA n nl nw⟩
/-- Behind the loop. -/
def psB : List Path := [.env 5, .cell 0 3, .cell 0 0, .cell 0 1, .cell 0 2, .cell 0 4]
def stB : CS := ⟨[(5, ptrV 5)], [.cells [slcV 7 818, slcV 8 140, slcV 9 140, .map (some 6), slcV 10 271] 82, .map (entA 140) 140] ++ arrsA 818 140 271⟩
def preA : List Code := segA.take 6
def postA : List Code := segA.drop 7
def fA1 : E3 → AHeap → (E3 → AHeap → OutK) → OutK := (codeK Tryz.prog 5 X call0 gA 100000 (seqOf preA)).run
def fA2 : E3 → AHeap → (E3 → AHeap → OutK) → OutK := (codeK Tryz.prog 5 X call0 gA 100000 (seqOf postA)).run
def txV : Value := .string ⟨⟨textN.map UInt8.ofNat⟩⟩
def stA00 : CS := ⟨[(0, txV)], []⟩
def resA : Value := .tuple #[slcV 5 818, slcV 6 140, .nilIface]
def stAZ : CS := ⟨[], [.cells (insR.flatMap insV) 60, .cells (labR.flatMap fun p => [.string (bs p.1), i64 p.2.1]) 87]⟩
end
end Go.Proofs.YtcfmeiejfofgpaaGreatDoor
