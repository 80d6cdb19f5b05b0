/- What is known ahead: a number within its bounds, its kinds, the document's examples. -/
import Derived.Test.YtjfohamkkmopgaaGreatDoorRefT
import Derived.Test.YtjfohamkkmopgaaGreatDoorPre
import Derived.Test.YtjfohamkkmopgaaGreatDoorLawD
namespace Go.Proofs.YtjfohamkkmopgaaGreatDoor
open Go.Ab Go Go.RowKit
set_option maxRecDepth 100000
set_option linter.unusedSectionVars false
set_option linter.unusedVariables false
set_option linter.unusedSimpArgs false
noncomputable section
def kindsOf (a b c d : Nat) (is : Bool) : Value := .tuple #[.agg #[i64 a, i64 b, i64 c, i64 d], .bool is]
theorem kinds_rows : (callR.all fun r => gives (@call0F noSg 14 [i64 r.1] (heap0 5 gl)) (kindsOf r.2.2.1 r.2.2.2.1 r.2.2.2.2.1 r.2.2.2.2.2 true)) = true := by kernel_rfl
def hasCall (x : Value) : Bool := match x with
  | .int .i64 m => callR.any fun r => decide (m = (r.1 : Int))
  | _ => false
@[reducible] def missK (n : Nat) (h : ∀ r ∈ callR, r.1 ≠ n) : Sg :=
  symSg (fun i => if i = 0 then some (i64 n) else none) (fun i x => hasCall x) (fun _ => false) (fun _ _ _ => none)
    (fun i v e => by split at e <;> first | (cases e; rfl) | cases e)
    (fun i x v e1 e2 => by
      split at e2
      · cases e2
        unfold hasCall at e1
        split at e1
        · rename_i m
          refine ⟨rfl, fun e => ?_⟩
          subst e
          obtain ⟨r, hr, h2⟩ := List.any_eq_true.1 e1
          have h2 := of_decide_eq_true h2
          exact h r hr (Int.ofNat.inj h2).symm
        · cases e1
      · cases e2)
    (fun i v e => by cases e) (fun P w op t a b v a' b' e => by cases e)
theorem kinds_miss (n : Nat) (h : ∀ r ∈ callR, r.1 ≠ n) : gives (@call0F (missK n h) 14 [.chan (some 0)] (heap0 5 gl)) (kindsOf 0 0 0 0 false) = true := by kernel_rfl
theorem awake_run : gives (@call0F noSg 9 [] (heap0 5 gl)) (.bool true) = true := by kernel_rfl
theorem kinds_row {r : Nat × Nat × Nat × Nat × Nat × Nat} (hr : r ∈ callR) : Always Tryz.prog 5 gl 14 [i64 r.1] (kindsOf r.2.2.1 r.2.2.2.1 r.2.2.2.2.1 r.2.2.2.2.2 true) :=
  @always_known noSg _ _ _ _ (fun W _ => @good0F noSg W) _ _ _ (by kernel_rfl) (by kernel_rfl) (List.all_eq_true.1 kinds_rows r hr)
theorem kinds_none (n : Nat) (h : ∀ r ∈ callR, r.1 ≠ n) : Always Tryz.prog 5 gl 14 [i64 n] (kindsOf 0 0 0 0 false) := by
  letI := missK n h
  exact always_to (fun W _ => good0F W) (by kernel_rfl) (fun φ => .cons (.sym rfl) .nil) (kinds_miss n h)
theorem awake_always : Always Tryz.prog 5 gl 9 [] (.bool true) := @always_known noSg _ _ _ _ (fun W _ => @good0F noSg W) _ _ _ (by kernel_rfl) (by kernel_rfl) awake_run
end
end Go.Proofs.YtjfohamkkmopgaaGreatDoor
