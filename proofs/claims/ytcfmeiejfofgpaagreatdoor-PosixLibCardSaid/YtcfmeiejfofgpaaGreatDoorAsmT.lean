/- asm.Parse over the library's text: what it gives. -/
import Derived.Test.YtcfmeiejfofgpaaGreatDoorAsmP
import Derived.Test.YtcfmeiejfofgpaaGreatDoorAsmC0
import Derived.Test.YtcfmeiejfofgpaaGreatDoorAsmC1
import Derived.Test.YtcfmeiejfofgpaaGreatDoorAsmC2
import Derived.Test.YtcfmeiejfofgpaaGreatDoorAsmC3
namespace Go.Proofs.YtcfmeiejfofgpaaGreatDoor
open Go.Ab
set_option maxRecDepth 100000
noncomputable section
theorem flatA : flatC cA = preA ++ Code.block 0 (.loop bodyA) :: postA := by kernel_rfl
theorem bodyOk : codeOk Tryz.f13.ntmps bodyA = true := by kernel_rfl
theorem preOk : preA.all (codeOk Tryz.f13.ntmps) = true := by kernel_rfl
theorem postOk : postA.all (codeOk Tryz.f13.ntmps) = true := by kernel_rfl
theorem bodyCA : Tryz.f13.body = some cA := by kernel_rfl
theorem asm_told : FnTold Tryz.prog 5 13 [txV] resA stAZ := by
  refine entry_ok (s0 := stA00) Tryz.func13 bodyCA rfl (by decide +kernel) fun W J φ0 => ?_
  rw [flatA]
  refine seg_ok (J := J) ext_ok names_ok (good0 W) mixed preOk (codeK_ok le0 _) asmPre ?_
  refine loop_ok (J := J) (s2 := (stA 840 716 124 230)) ext_ok names_ok (good0 W) mixed bodyOk (codeK_ok le0 _) (fun Q hq => ?_) asmL (finL_ok (J := J) ext_ok names_ok (good0 W) mixed (fun c hc => List.all_eq_true.1 postOk c hc) (codeK_ok le0 _) asmFin)
  have step : ∀ {s s' : CS} {m : Nat}, chunkB 5 gA fA psA s m s' = true → (∀ a w, St Tryz.prog W 5 J φ0 Tryz.f13.ntmps (envC s') (heapC 5 s') a w → LoopWp Tryz.prog bodyA Q a w) → ∀ a w, St Tryz.prog W 5 J φ0 Tryz.f13.ntmps (envC s) (heapC 5 s) a w → LoopWp Tryz.prog bodyA Q a w :=
    fun hb hq => chunk_ok (J := J) ext_ok names_ok (good0 W) mixed bodyOk (codeK_ok le0 _) hb hq
  exact (step asm0 (step asm120 (step asm240 (step asm360 (step asm480 (step asm600 (step asm720 hq)))))))
end
end Go.Proofs.YtcfmeiejfofgpaaGreatDoor
