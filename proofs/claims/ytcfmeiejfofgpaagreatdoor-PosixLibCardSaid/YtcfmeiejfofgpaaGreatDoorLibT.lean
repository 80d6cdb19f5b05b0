/- The two libraries, told; the law's memory. -/
import Derived.Test.YtcfmeiejfofgpaaGreatDoorAsmT
import Derived.Test.YtcfmeiejfofgpaaGreatDoorRefT
import Derived.Test.YtcfmeiejfofgpaaGreatDoorLibA
import Derived.Test.YtcfmeiejfofgpaaGreatDoorLibR
namespace Go.Proofs.YtcfmeiejfofgpaaGreatDoor
set_option linter.unusedVariables false
set_option linter.unusedSimpArgs false
set_option linter.unusedSectionVars false
open Go.Ab Go.Extern
set_option maxRecDepth 100000
theorem ts_ok : ∀ f ar u s, ts.lookup f = some (ar, u, s) → FnTold Tryz.prog 5 f ar u s := by
  intro f ar u s h
  unfold ts at h
  simp only [List.lookup] at h
  split at h
  · rename_i e; cases h; rw [eq_of_beq e]; exact asm_told
  split at h
  · rename_i e; cases h; rw [eq_of_beq e]; exact ref_told
  · cases h
theorem goodZ (W : World) : CallGood Tryz.prog W 5 callZ := evalF_good ext_ok names_ok (toldF_ok ts_ok) codes_ok mixed 30
noncomputable abbrev evB : ACall := evalFn Tryz.prog 5 X (onceF 5 callZ [(13, [txV]), (9, [txV])]) (fun _ => true) 100000 30
theorem goodBK (W : World) : CallGood Tryz.prog W 5 evB := evalFn_good ext_ok names_ok (onceF_ok (gl := []) (fun g l h => by cases h) (fun W _ => goodZ W) (by kernel_rfl)) codes_ok mixed 30
theorem leBK : CallLe callBK evB := fnK_le X _ _ 5 100000 30
theorem bodyCL : Tryz.f5.body = some cL := by kernel_rfl
theorem bodyCM : Tryz.f4.body = some cM := by kernel_rfl
theorem okL : (flatC cL).all (codeOk Tryz.f5.ntmps) = true := by kernel_rfl
theorem okM : (flatC cM).all (codeOk Tryz.f4.ntmps) = true := by kernel_rfl
theorem lib_told : FnTold Tryz.prog 5 5 [] resL stLib :=
  whole_ok (G := gL) (L := 100000) (nm := nmLib) (call := callBK) (args := []) (fun W => ext_ok) names_ok mixed goodBK leBK Tryz.func5 bodyCL okL (Nat.zero_le _) libFin
theorem reflib_told : FnTold Tryz.prog 5 4 [.int .i64 23] libV stLib :=
  whole_ok (G := gM) (L := 100000) (nm := nmLib) (call := callBK) (args := [.int .i64 23]) (fun W => ext_ok) names_ok mixed goodBK leBK Tryz.func4 bodyCM okM (by decide +kernel) refLibFin
theorem tl_ok : ∀ f ar u s, tl.lookup f = some (ar, u, s) → FnTold Tryz.prog 5 f ar u s := by
  intro f ar u s h
  unfold tl at h
  simp only [List.lookup] at h
  split at h
  · rename_i e; cases h; rw [eq_of_beq e]; exact lib_told
  split at h
  · rename_i e; cases h; rw [eq_of_beq e]; exact reflib_told
  · cases h
theorem tl_plain : ∀ f ar u s, tl.lookup f = some (ar, u, s) → ar.all (plainV 5) = true := by
  intro f ar u s h
  unfold tl at h
  simp only [List.lookup] at h
  split at h
  · cases h; rfl
  split at h
  · cases h; kernel_rfl
  · cases h
theorem topO_ok {W : World} : OrcOk Tryz.prog W 5 topO := by
  intro f g hg args h r h' he J φ w args' R ha
  unfold topO at hg
  split at hg
  · rename_i hf
    cases hg
    subst hf
    exact spoilO_ok he R ha
  · exact toldM_ok tl_ok tl_plain f g hg args h r h' he J φ w args' R ha
theorem goodT (W : World) : CallGood Tryz.prog W 5 callT := evalF_good ext_ok names_ok topO_ok codes_ok mixed 30
end Go.Proofs.YtcfmeiejfofgpaaGreatDoor
