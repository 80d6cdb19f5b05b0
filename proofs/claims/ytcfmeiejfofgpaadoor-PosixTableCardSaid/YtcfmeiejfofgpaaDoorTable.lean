/- The law on the table. -/
import Derived.Test.YtcfmeiejfofgpaaDoorNames
namespace Go.Proofs.YtcfmeiejfofgpaaDoor
open Go.Ab
set_option maxRecDepth 100000
set_option linter.unusedVariables false
def names_p : List Value → Option Value
  | [.int .i64 n, .string s] => some (.bool true)
  | _ => none
def name_p : List Value → Option Value
  | [.int .i64 n] => some (.string (row n).name)
  | _ => none
def tps : Pures := [(4, names_p), (12, name_p), (9, awake_p)]
theorem name_run (n : Int) (b : Bool) : gives (@callP (nmI n ⟨#[]⟩ false (nolie _)) (nps b false) 12 [sy 0] (heap0 2 gl)) (sy 1) = true := by kernel_rfl
theorem name_always (n : Int) : Always Tryd.prog 2 gl 12 [i64 n] (.string (row n).name) := by
  have he := name_run n (isRow n)
  letI := nmI n ⟨#[]⟩ false (nolie _)
  unfold gives at he
  split at he
  · rename_i v h' hcall
    have := veq_eq _ _ he
    subst this
    exact always_of (goodP (nps_ok n ⟨#[]⟩ false (nolie _))) hcall (fun φ self => .cons (.sym rfl) .nil) (fun φ v self r => (Option.some.inj (sym_inv r)).symm)
  · cases he
theorem tps_ok [Sg] : ∀ f p, tps.lookup f = some p → PureOk Tryd.prog 2 gl f p := by
  intro f p hl
  simp only [tps, List.lookup] at hl
  split at hl
  · rename_i e; rw [eq_of_beq e]; cases hl
    intro args r hr φ args' ha
    unfold names_p at hr
    split at hr
    · cases hr
      cases ha with | cons h1 h2 => cases h2 with | cons h2 h3 => cases h3 with | nil =>
      have := h1.flat_inv rfl
      subst this
      have := h2.flat_inv rfl
      subst this
      exact ⟨_, names_always _ _, fun ψ => .flat rfl⟩
    · cases hr
  split at hl
  · rename_i e; rw [eq_of_beq e]; cases hl
    intro args r hr φ args' ha
    unfold name_p at hr
    split at hr
    · cases hr
      cases ha with | cons h1 h2 => cases h2 with | nil =>
      have := h1.flat_inv rfl
      subst this
      exact ⟨_, name_always _, fun ψ => .flat rfl⟩
    · cases hr
  split at hl
  · rename_i e; rw [eq_of_beq e]; cases hl
    exact awakeOk
  · cases hl
theorem table_run : gives (@callP noSg tps 5 [] (heap0 2 gl)) (.bool true) = true := by kernel_rfl
theorem table_always : Always Tryd.prog 2 gl 5 [] (.bool true) := @always_known noSg _ _ _ _ (@goodP noSg _ (@tps_ok noSg)) _ _ _ rfl rfl table_run
end Go.Proofs.YtcfmeiejfofgpaaDoor
