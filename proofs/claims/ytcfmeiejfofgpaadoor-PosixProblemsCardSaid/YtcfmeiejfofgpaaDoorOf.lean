/- posix.of and distaffref24.Find, of any number. -/
import Derived.Test.YtcfmeiejfofgpaaDoorTab
namespace Go.Proofs.YtcfmeiejfofgpaaDoor
open Go.Ab
set_option maxRecDepth 100000
set_option linter.unusedVariables false

/-- A number that no row has. -/
@[reducible] def missI (n : Int) (h : ∀ r ∈ rows, r.num ≠ n) : Sg :=
  symSg (fun i => if i = 0 then some (i64 n) else none) (fun i x => hasNum x) (fun _ => false) (fun _ _ _ => none)
    (fun i v e => by split at e <;> first | (cases e; rfl) | cases e)
    (fun i x v e1 e2 => by
      split at e2
      · cases e2
        unfold hasNum at e1
        split at e1
        · rename_i m
          refine ⟨rfl, fun e => ?_⟩
          subst e
          obtain ⟨r, hr, h2⟩ := List.any_eq_true.1 e1
          exact h r hr (eq_of_beq h2)
        · cases e1
      · cases e2)
    (fun i v e => by cases e) (fun P w op t a b v a' b' e => by cases e)
theorem row_cases (n : Int) : (∃ r, r ∈ rows ∧ r.num = n ∧ row n = r ∧ isRow n = true) ∨ ((∀ r ∈ rows, r.num ≠ n) ∧ row n = noRow ∧ isRow n = false) := by
  unfold row isRow
  cases h : rows.find? (·.num == n) with
  | some r => exact .inl ⟨r, List.mem_of_find?_eq_some h, eq_of_beq (List.find?_some (p := fun r : Rw => r.num == n) h), rfl, rfl⟩
  | none =>
    refine .inr ⟨fun r hr e => ?_, rfl, rfl⟩
    have := List.find?_eq_none.1 h r hr
    rw [e] at this
    exact this (by simp)

theorem of_rows : (rows.all fun r => gives (@call1 noSg 19 [i64 r.num] (heap0 2 gl)) (ofV r true)) = true := by kernel_rfl
theorem of_miss (n : Int) (h : ∀ r ∈ rows, r.num ≠ n) : gives (@call1 (missI n h) 19 [.chan (some 0)] (heap0 2 gl)) (ofV noRow false) = true := by kernel_rfl
theorem of_always (n : Int) : Always Tryd.prog 2 gl 19 [i64 n] (ofV (row n) (isRow n)) := by
  rcases row_cases n with ⟨r, hr, h1, h2, h3⟩ | ⟨h1, h2, h3⟩
  · rw [h2, h3, ← h1]
    exact @always_known noSg _ _ _ _ (@good1 noSg) _ _ _ rfl rfl (List.all_eq_true.1 of_rows r hr)
  · rw [h2, h3]
    letI := missI n h1
    exact always_to good1 rfl (fun φ => .cons (.sym rfl) .nil) (of_miss n h1)

theorem find_rows : (rows.all fun r => gives (@call1 noSg 10 [i64 r.num] (heap0 2 gl)) (findV r true)) = true := by kernel_rfl
theorem find_miss (n : Int) (h : ∀ r ∈ rows, r.num ≠ n) : gives (@call1 (missI n h) 10 [.chan (some 0)] (heap0 2 gl)) (findV noRow false) = true := by kernel_rfl
theorem find_always (n : Int) : Always Tryd.prog 2 gl 10 [i64 n] (findV (row n) (isRow n)) := by
  rcases row_cases n with ⟨r, hr, h1, h2, h3⟩ | ⟨h1, h2, h3⟩
  · rw [h2, h3, ← h1]
    exact @always_known noSg _ _ _ _ (@good1 noSg) _ _ _ rfl rfl (List.all_eq_true.1 find_rows r hr)
  · rw [h2, h3]
    letI := missI n h1
    exact always_to good1 rfl (fun φ => .cons (.sym rfl) .nil) (find_miss n h1)
end Go.Proofs.YtcfmeiejfofgpaaDoor
