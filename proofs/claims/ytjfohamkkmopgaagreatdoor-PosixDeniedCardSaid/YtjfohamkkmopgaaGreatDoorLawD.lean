/- The law: its parts ahead of the rounds. -/
import Derived.Test.YtjfohamkkmopgaaGreatDoorKern
import Derived.Test.YtjfohamkkmopgaaGreatDoorPickD
import Derived.Test.YtjfohamkkmopgaaGreatDoorAbT
namespace Go.Proofs.YtjfohamkkmopgaaGreatDoor
open Go.Ab Go
set_option maxRecDepth 100000
set_option linter.unusedSectionVars false
noncomputable section
def nmKern (args : List Value) (h : AHeap) : List Nat := match args with
  | [_, .agg ⟨[a, _, b]⟩, .agg ⟨c :: _⟩] => [(nameOf a).getD 0, (nameOf b).getD 0, (nameOf c).getD 0]
  | _ => []
def tsKern : List (FuncId × TS) := [(18, ⟨⟨[], obsN0⟩, argsN, 0, nmKern, uN, stN9⟩)]
def tsLib : Tolds := [(17, [], resL, stLib)]
/-- What is known ahead: the number within its bounds, its kinds, the document's examples. -/
def knD (kinds : Value) : List (FuncId × List Value × Value) := [(13, [sy 4, i64 1000], sy 0), (14, [sy 0], kinds), (9, [], .bool true)]
def kindsA : Value := .tuple #[.agg #[sy 6, sy 7, sy 8, sy 9], .bool true]
def kindsB : Value := .tuple #[.agg #[i64 0, i64 0, i64 0, i64 0], .bool false]
def kindsC : Value := .tuple #[.agg #[i64 0, i64 0, i64 0, i64 0], .bool true]
variable [Sg]
def orcL (kinds : Value) : Orc := orc2 (knownO (knD kinds)) (orc2 (toldM 5 tsLib) (toldS 5 tsKern))
def callLA (kinds : Value) : ACall := evalFn Tryz.prog 5 X (orcL kinds) (fun _ => true) 100000 30
def callL (kinds : Value) : FuncId → CallC := fnK Tryz.prog 5 X (orcL kinds) (fun _ => true) 100000 30
theorem leL (kinds : Value) : CallLe (callL kinds) (callLA kinds) := fnK_le X _ _ 5 100000 30
def preD : List Code := segD.take 19
def postD : List Code := segD.drop 20
def fL0 (kinds : Value) : E3 → AHeap → (E3 → AHeap → OutK) → OutK := (codeK Tryz.prog 5 X (callL kinds) gD 100000 (seqOf preD)).run
def fLC (kinds : Value) : E3 → AHeap → (E3 → AHeap → OutK) → OutK := (codeK Tryz.prog 5 X (callL kinds) gD 100000 (seqOf segD)).run
def stD0 (h : Value) : CS := ⟨[sy 4, h].zipIdx.map fun p => (p.2, p.1), []⟩
def stD1 (want : Value) : CS := ⟨[(0, sy 0), (1, sy 2), (10, ptrV 5), (12, want), (13, i64 0), (14, i64 0)], stP0.obs⟩
end
end Go.Proofs.YtjfohamkkmopgaaGreatDoor
