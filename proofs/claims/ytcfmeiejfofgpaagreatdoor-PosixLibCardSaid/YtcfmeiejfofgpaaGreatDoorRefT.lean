/- distaffref05.Parse over the library's text: what it gives. -/
import Derived.Test.YtcfmeiejfofgpaaGreatDoorRefP
import Derived.Test.YtcfmeiejfofgpaaGreatDoorRefW
import Derived.Test.YtcfmeiejfofgpaaGreatDoorRefC0
import Derived.Test.YtcfmeiejfofgpaaGreatDoorRefC1
import Derived.Test.YtcfmeiejfofgpaaGreatDoorRefC2
import Derived.Test.YtcfmeiejfofgpaaGreatDoorRefC3
namespace Go.Proofs.YtcfmeiejfofgpaaGreatDoor
open Go.Ab
set_option maxRecDepth 100000
noncomputable section
theorem flatR : flatC cR = preR ++ Code.block 0 (.loop bodyR) :: (midR ++ Code.block 2 (.loop body2R) :: postR) := by kernel_rfl
theorem preROk : preR.all (codeOk Tryz.f9.ntmps) = true := by kernel_rfl
theorem midROk : midR.all (codeOk Tryz.f9.ntmps) = true := by kernel_rfl
theorem postROk : postR.all (codeOk Tryz.f9.ntmps) = true := by kernel_rfl
theorem bodyROk : codeOk Tryz.f9.ntmps bodyR = true := by kernel_rfl
theorem body2ROk : codeOk Tryz.f9.ntmps body2R = true := by kernel_rfl
theorem bodyCR : Tryz.f9.body = some cR := by kernel_rfl
abbrev evA : ACall := evalFn Tryz.prog 5 X (fun _ => none) (fun _ => true) 100000 30
theorem cokR : CodeOk Tryz.prog 5 X evA gR 100000 bodyR fR := codeK_ok le0 bodyR
theorem stepR (hf : CodeOk Tryz.prog 5 X evA gR 100000 bodyR fR) {W : World} {J : Nat → Option Obj} {φ0 : Map} {Q : Exit → Act → World → Prop} {s s' : CS} {m : Nat} (hb : chunkB 5 gR fR psR s m s' = true)
    (hq : ∀ a w, St Tryz.prog W 5 J φ0 Tryz.f9.ntmps (envC s') (heapC 5 s') a w → LoopWp Tryz.prog bodyR Q a w) : ∀ a w, St Tryz.prog W 5 J φ0 Tryz.f9.ntmps (envC s) (heapC 5 s) a w → LoopWp Tryz.prog bodyR Q a w :=
  chunk_ok (J := J) ext_ok names_ok (good0 W) mixed bodyROk hf hb hq
theorem cok2R : CodeOk Tryz.prog 5 X evA gR 100000 body2R f2R := codeK_ok le0 body2R
theorem step2R (hf : CodeOk Tryz.prog 5 X evA gR 100000 body2R f2R) {W : World} {J : Nat → Option Obj} {φ0 : Map} {Q : Exit → Act → World → Prop} {s s' : CS} {m : Nat} (hb : chunkB 5 gR f2R psR s m s' = true)
    (hq : ∀ a w, St Tryz.prog W 5 J φ0 Tryz.f9.ntmps (envC s') (heapC 5 s') a w → LoopWp Tryz.prog body2R Q a w) : ∀ a w, St Tryz.prog W 5 J φ0 Tryz.f9.ntmps (envC s) (heapC 5 s) a w → LoopWp Tryz.prog body2R Q a w :=
  chunk_ok (J := J) ext_ok names_ok (good0 W) mixed body2ROk hf hb hq
theorem cokPre : CodeOk Tryz.prog 5 X evA gR 100000 (seqOf preR) fR1 := codeK_ok le0 (seqOf preR)
theorem cokMid : CodeOk Tryz.prog 5 X evA gR 100000 (seqOf midR) fR2 := codeK_ok le0 (seqOf midR)
theorem cokPost : CodeOk Tryz.prog 5 X evA gR 100000 (seqOf postR) fR3 := codeK_ok le0 (seqOf postR)
theorem ref_told : FnTold Tryz.prog 5 9 [txV] resR stRZ := by
  refine entry_ok (s0 := stA00) Tryz.func9 bodyCR rfl (by decide +kernel) fun W J φ0 => ?_
  rw [flatR]
  refine seg_ok (J := J) ext_ok names_ok (good0 W) mixed preROk cokPre refPre ?_
  refine loop_ok (J := J) (s2 := (stR 9491 880 749 131 247)) ext_ok names_ok (good0 W) mixed bodyROk cokR (fun Q hq => ?_) refL ?_
  · exact (stepR cokR ref0 (stepR cokR ref80 (stepR cokR ref160 (stepR cokR ref240 (stepR cokR ref320 (stepR cokR ref400 (stepR cokR ref480 (stepR cokR ref560 (stepR cokR ref640 (stepR cokR ref720 (stepR cokR ref800 hq)))))))))))
  refine seg_ok (J := J) ext_ok names_ok (good0 W) mixed midROk cokMid refMid ?_
  refine loop_ok (J := J) (s2 := (stW 180 597)) ext_ok names_ok (good0 W) mixed body2ROk cok2R (fun Q hq => ?_) wantL (finL_ok (J := J) ext_ok names_ok (good0 W) mixed (fun c hc => List.all_eq_true.1 postROk c hc) cokPost refFin)
  exact (step2R cok2R want0 (step2R cok2R want90 hq))
end
end Go.Proofs.YtcfmeiejfofgpaaGreatDoor
