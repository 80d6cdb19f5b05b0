/- posix.Num, of any name; the document's examples. -/
import Derived.Test.YtcfmeiejfofgpaaDoorTab
namespace Go.Proofs.YtcfmeiejfofgpaaDoor
open Go.Ab
set_option maxRecDepth 100000
set_option linter.unusedVariables false

/-- A name that no row has. -/
@[reducible] def missS (s : ByteArray) (h : ∀ r ∈ rows, r.name ≠ s) : Sg :=
  symSg (fun i => if i = 0 then some (.string s) else none) (fun i x => hasName x) (fun _ => false) (fun _ _ _ => none)
    (fun i v e => by split at e <;> first | (cases e; rfl) | cases e)
    (fun i x v e1 e2 => by
      split at e2
      · cases e2
        unfold hasName at e1
        split at e1
        · rename_i m
          show m ≠ s
          intro e
          subst e
          obtain ⟨r, hr, h2⟩ := List.any_eq_true.1 e1
          exact h r hr (ByteArray.ext (eq_of_beq h2))
        · cases e1
      · cases e2)
    (fun i v e => by cases e) (fun P w op t a b v a' b' e => by cases e)
theorem name_cases (s : ByteArray) : (∃ r, r ∈ rows ∧ r.name = s ∧ rowOf s = r ∧ isName s = true) ∨ ((∀ r ∈ rows, r.name ≠ s) ∧ rowOf s = noRow ∧ isName s = false) := by
  unfold rowOf isName
  cases h : rows.find? (fun r => r.name.data == s.data) with
  | some r => exact .inl ⟨r, List.mem_of_find?_eq_some h, ByteArray.ext (eq_of_beq (List.find?_some (p := fun r : Rw => r.name.data == s.data) h)), rfl, rfl⟩
  | none =>
    refine .inr ⟨fun r hr e => ?_, rfl, rfl⟩
    have := List.find?_eq_none.1 h r hr
    rw [e] at this
    exact this (by simp)

theorem num_rows : (rows.all fun r => gives (@call1 noSg 14 [.string r.name] (heap0 2 gl)) (numV r.num true)) = true := by kernel_rfl
theorem num_miss (s : ByteArray) (h : ∀ r ∈ rows, r.name ≠ s) : gives (@call1 (missS s h) 14 [.chan (some 0)] (heap0 2 gl)) (numV 0 false) = true := by kernel_rfl
theorem num_always (s : ByteArray) : Always Tryd.prog 2 gl 14 [.string s] (numV (rowOf s).num (isName s)) := by
  rcases name_cases s with ⟨r, hr, h1, h2, h3⟩ | ⟨h1, h2, h3⟩
  · rw [h2, h3, ← h1]
    exact @always_known noSg _ _ _ _ (@good1 noSg) _ _ _ rfl rfl (List.all_eq_true.1 num_rows r hr)
  · rw [h2, h3]
    letI := missS s h1
    exact always_to good1 rfl (fun φ => .cons (.sym rfl) .nil) (num_miss s h1)

theorem awake_run : gives (@call1 noSg 9 [] (heap0 2 gl)) (.bool true) = true := by kernel_rfl
theorem awake_always : Always Tryd.prog 2 gl 9 [] (.bool true) := @always_known noSg _ _ _ _ (@good1 noSg) _ _ _ rfl rfl awake_run
end Go.Proofs.YtcfmeiejfofgpaaDoor
