/- asm.Parse over the library's text: what it gives. posix.Lib: what it gives, as data. -/
import Derived.Test.YtjfohamkkmopgaaGreatDoorAsmP
import Derived.Test.YtjfohamkkmopgaaGreatDoorAsmC0
import Derived.Test.YtjfohamkkmopgaaGreatDoorAsmC1
import Derived.Test.YtjfohamkkmopgaaGreatDoorAsmC2
import Derived.Test.YtjfohamkkmopgaaGreatDoorAsmC3
import Derived.Test.YtjfohamkkmopgaaGreatDoorData
namespace Go.Proofs.YtjfohamkkmopgaaGreatDoor
open Go.Ab
set_option maxRecDepth 100000
set_option linter.unusedSectionVars false
noncomputable section
variable [Sg]
theorem flatA : flatC cA = preA ++ Code.block 0 (.loop bodyA) :: postA := by kernel_rfl
theorem bodyOk : codeOk Tryz.f33.ntmps bodyA = true := by kernel_rfl
theorem preOk : preA.all (codeOk Tryz.f33.ntmps) = true := by kernel_rfl
theorem postOk : postA.all (codeOk Tryz.f33.ntmps) = true := by kernel_rfl
theorem bodyCA : Tryz.f33.body = some cA := by kernel_rfl
theorem asm_told : FnTold Tryz.prog 5 33 [txV] resA stAZ := by
  refine entry_ok (s0 := stA00) Tryz.func33 bodyCA rfl (by decide +kernel) fun W J φ0 => ?_
  rw [flatA]
  refine seg_ok (J := J) ext_ok names_ok (good0 W) mixed preOk (codeK_ok le0 _) asmPre ?_
  refine loop_ok (J := J) (s2 := (stA 840 716 124 230)) ext_ok names_ok (good0 W) mixed bodyOk (codeK_ok le0 _) (fun Q hq => ?_) asmL (finL_ok (J := J) ext_ok names_ok (good0 W) mixed (fun c hc => List.all_eq_true.1 postOk c hc) (codeK_ok le0 _) asmFin)
  have step : ∀ {s s' : CS} {m : Nat}, chunkB 5 gA fA psA s m s' = true → (∀ a w, St Tryz.prog W 5 5 J φ0 Tryz.f33.ntmps (envC s') (heapC 5 s') a w → LoopWp Tryz.prog bodyA Q a w) → ∀ a w, St Tryz.prog W 5 5 J φ0 Tryz.f33.ntmps (envC s) (heapC 5 s) a w → LoopWp Tryz.prog bodyA Q a w :=
    fun hb hq => chunk_ok (J := J) ext_ok names_ok (good0 W) mixed bodyOk (codeK_ok le0 _) hb hq
  exact (step asm0 (step asm120 (step asm240 (step asm360 (step asm480 (step asm600 (step asm720 hq)))))))
end
end Go.Proofs.YtjfohamkkmopgaaGreatDoor
namespace Go.Proofs.YtjfohamkkmopgaaGreatDoor
set_option linter.unusedVariables false
set_option linter.unusedSimpArgs false
set_option linter.unusedSectionVars false
open Go.Ab Go.Extern
set_option maxRecDepth 100000
noncomputable section
variable [Sg]
/-- The calls: number, place, kinds. -/
def callR : List (Nat × Nat × Nat × Nat × Nat × Nat) := [(1, 223, 0, 0, 0, 0), (2, 246, 0, 0, 0, 0), (3, 256, 0, 0, 0, 0), (4, 284, 0, 0, 0, 0), (5, 299, 0, 0, 0, 0), (6, 302, 0, 0, 0, 0), (7, 307, 0, 0, 0, 0), (8, 304, 0, 0, 0, 0), (10, 321, 0, 0, 0, 0), (11, 346, 1, 0, 0, 0), (12, 351, 1, 0, 0, 0), (13, 398, 1, 0, 0, 0), (14, 352, 1, 0, 0, 0), (15, 418, 1, 0, 0, 0), (20, 449, 0, 0, 0, 0), (21, 460, 2, 0, 0, 0), (22, 471, 2, 0, 0, 0), (23, 491, 2, 0, 0, 0), (24, 472, 2, 0, 0, 0), (25, 501, 2, 0, 0, 0), (26, 517, 2, 0, 0, 0), (30, 520, 0, 0, 0, 0), (31, 527, 3, 0, 0, 0), (40, 556, 0, 0, 0, 0), (41, 568, 4, 0, 0, 0), (42, 576, 4, 0, 0, 0), (50, 603, 0, 0, 0, 0), (51, 614, 5, 0, 0, 0), (52, 637, 5, 0, 0, 0), (53, 662, 5, 0, 0, 0), (54, 638, 5, 0, 0, 0), (55, 668, 5, 0, 0, 0), (56, 693, 5, 0, 0, 0), (57, 669, 5, 0, 0, 0), (58, 701, 5, 0, 0, 0), (60, 749, 0, 0, 0, 0), (61, 756, 6, 0, 0, 0), (62, 765, 6, 1, 0, 0), (63, 766, 6, 1, 0, 0), (64, 796, 6, 0, 0, 0), (65, 811, 6, 0, 0, 0), (70, 176, 7, 0, 0, 0), (71, 184, 7, 0, 0, 0), (72, 191, 7, 0, 7, 0), (73, 197, 7, 0, 7, 0)]
def gl : List (Nat × List Value) := [(0, [.iface 282 (.agg #[typeHandle Tryz.prog 34])])]
/-- The reading of the text, told. -/
def ts : Tolds := [(33, [txV], resA, stAZ)]
def callZ : ACall := evalF Tryz.prog 5 X (toldF 5 ts) (fun _ => true) 100000 30
def callsV : List Value := callR.flatMap fun p => [i64 p.1, i64 p.2.1, i64 p.2.2.1, i64 p.2.2.2.1, i64 p.2.2.2.2.1, i64 p.2.2.2.2.2]
def libV : Value := .agg #[slcV 5 818, i64 90, slcV 6 45]
def stLib : CS := ⟨[], [.cells (insR.flatMap insV) 57, .cells callsV 125]⟩
def namesOfV (v : Value) : List Nat := match v with
  | .agg ⟨[a, _, c]⟩ => [(nameOf a).getD 0, (nameOf c).getD 0]
  | _ => []
def nmLib (vs : List Value) (_ : E3) (_ : AHeap) : List Nat := match vs with
  | v :: _ => namesOfV v
  | [] => []
def callBK : FuncId → CallC := fnK Tryz.prog 5 X (onceF 5 callZ [(33, [txV])]) (fun _ => true) 100000 30
def cL : Code := (Tryz.f17.body).getD .skip
def gL : Nat → Bool := inMask (Nat.lor (expoC cL) (expoV Tryz.f17.results.toList))
def resL : Value := .tuple #[libV, .nilIface]
end
end Go.Proofs.YtjfohamkkmopgaaGreatDoor
