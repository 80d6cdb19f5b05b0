/- distaffkeep.Within, of any number within 1000. -/
import Derived.Test.YtjfohamkkmopgaaGreatDoorData
import Derived.WalkKit
import Derived.IntWalk
namespace Go.Proofs.YtjfohamkkmopgaaGreatDoor
set_option linter.unusedVariables false
set_option linter.unusedSimpArgs false
set_option linter.unusedSectionVars false
open Go.RowKit Go.Ab
set_option maxRecDepth 100000
theorem tmod_cases (n : Int) : n.tmod 1000 = n % 1000 ∨ n.tmod 1000 = n % 1000 - 1000 := by
  rw [Int.tmod_eq_emod]
  split
  · left; simp
  · right; simp
theorem within_walk (n : Int) (w : World) : Calls Tryz.prog 13 #[.int .i64 n, .int .i64 1000] w fun en w' => en = .returned (.int .i64 (n % 1000)) ∧ Below w.heap.size w w' := by
  have ht := tmod_cases n
  go_enter Tryz.func13, Tryz.ntmps13
  go_wp2
  · refine ⟨rfl, _, results_tmp rfl _ _ _, ?_, Below.refl _ _⟩
    have e2 : n.tmod 1000 + 1000 = n % 1000 := by omega
    rw [e2]; rfl
  · refine ⟨rfl, _, results_tmp rfl _ _ _, ?_, Below.refl _ _⟩
    have e2 : n.tmod 1000 = n % 1000 := by omega
    rw [e2]; rfl
end Go.Proofs.YtjfohamkkmopgaaGreatDoor
