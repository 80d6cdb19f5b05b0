/- The law on names: of any number and any name. -/
import Derived.Test.YtcfmeiejfofgpaaDoorOf
import Derived.Test.YtcfmeiejfofgpaaDoorNum
namespace Go.Proofs.YtcfmeiejfofgpaaDoor
open Go.Ab
set_option maxRecDepth 100000
set_option linter.unusedVariables false

def sy (i : Nat) : Value := .chan (some i)
def nσ (n : Int) (s : ByteArray) : Nat → Option Value
  | 0 => some (i64 n)
  | 1 => some (.string (row n).name)
  | 2 => some (.string (row n).routine)
  | 3 => some (i64 (row n).layer)
  | 4 => some (i64 (row n).k0)
  | 5 => some (i64 (row n).k1)
  | 6 => some (i64 (row n).k2)
  | 7 => some (i64 (row n).k3)
  | 8 => some (i64 (row n).num)
  | 9 => some (.string s)
  | _ => none
def nInt : Nat → Bool
  | 0 | 3 | 4 | 5 | 6 | 7 | 8 => true
  | _ => false
def nNe (miss : Bool) : Nat → Value → Bool
  | 9, x => miss && hasName x
  | _, _ => false
theorem nσ_cases {n : Int} {s : ByteArray} {i : Nat} {v : Value} (h : nσ n s i = some v) : (nInt i = true ∧ ∃ m, v = i64 m) ∨ (nInt i = false ∧ ∃ b, v = .string b) := by
  unfold nσ at h
  split at h <;> first | (cases h; done) | (cases h; exact .inl ⟨rfl, _, rfl⟩) | (cases h; exact .inr ⟨rfl, _, rfl⟩)
@[reducible] def nmI (n : Int) (s : ByteArray) (miss : Bool) (h : miss = true → ∀ r ∈ rows, r.name ≠ s) : Sg :=
  symSg (nσ n s) (nNe miss) nInt (fun _ _ _ => none)
    (fun i v e => by rcases nσ_cases e with ⟨_, m, rfl⟩ | ⟨_, b, rfl⟩ <;> rfl)
    (fun i x v e1 e2 => by
      unfold nNe at e1
      split at e1
      · simp only [Bool.and_eq_true] at e1
        cases e2
        unfold hasName at e1
        split at e1
        · rename_i m
          show m ≠ s
          intro e
          subst e
          obtain ⟨r, hr, h2⟩ := List.any_eq_true.1 e1.2
          exact h e1.1 r hr (ByteArray.ext (eq_of_beq h2))
        · cases e1.2
      · cases e1)
    (fun i v e1 e2 => by
      rcases nσ_cases e2 with ⟨_, m, rfl⟩ | ⟨e3, _⟩
      · exact ⟨_, _, rfl⟩
      · rw [e1] at e3; cases e3)
    (fun P w op t a b v a' b' e => by cases e)

def of_p (is : Bool) : List Value → Option Value
  | [.chan (some 0)] => some (.tuple #[.agg #[sy 8, sy 1, sy 2, sy 4, sy 5, sy 6, sy 7], .bool is])
  | _ => none
def find_p (is : Bool) : List Value → Option Value
  | [.chan (some 0)] => some (.tuple #[.agg #[sy 8, sy 1, sy 2, sy 3, sy 4, sy 5, sy 6, sy 7], .bool is])
  | _ => none
def num_p (miss : Bool) : List Value → Option Value
  | [.string t] => some (numV (rowOf t).num (isName t))
  | [.chan (some 9)] => if miss = true then some (numV 0 false) else none
  | _ => none
def awake_p : List Value → Option Value
  | [] => some (.bool true)
  | _ => none
def nps (is miss : Bool) : Pures := [(19, of_p is), (10, find_p is), (14, num_p miss), (9, awake_p)]

theorem awakeOk [Sg] : PureOk Tryd.prog 2 gl 9 awake_p := by
  intro args r h φ args' ha
  unfold awake_p at h
  split at h
  · cases h
    cases ha
    exact ⟨_, awake_always, fun ψ => .flat rfl⟩
  · cases h
theorem sym_inv [Sg] {φ : Map} {i : Nat} {v' : Value} (h : VR φ (.chan (some i)) v') : Sg.σ i = some v' := by
  cases h with
  | flat h => simp [noAddr] at h
  | sym h => exact h
theorem nps_ok (n : Int) (s : ByteArray) (miss : Bool) (h : miss = true → ∀ r ∈ rows, r.name ≠ s) : letI := nmI n s miss h; ∀ f p, (nps (isRow n) miss).lookup f = some p → PureOk Tryd.prog 2 gl f p := by
  letI := nmI n s miss h
  intro f p hl
  simp only [nps, List.lookup] at hl
  have sl : ∀ (φ : Map) (i : Nat) (v : Value), nσ n s i = some v → VR φ (sy i) v := fun φ i v e => .sym e
  split at hl
  · rename_i e; rw [eq_of_beq e]; cases hl
    intro args r hr φ args' ha
    unfold of_p at hr
    split at hr
    · cases hr
      cases ha with | cons h1 h2 => cases h2 with | nil =>
      have := Option.some.inj (sym_inv h1)
      subst this
      refine ⟨_, of_always n, fun ψ => ?_⟩
      exact .of_tuples (.cons (.of_aggs (.cons (sl _ 8 _ rfl) (.cons (sl _ 1 _ rfl) (.cons (sl _ 2 _ rfl) (.cons (sl _ 4 _ rfl) (.cons (sl _ 5 _ rfl) (.cons (sl _ 6 _ rfl) (.cons (sl _ 7 _ rfl) .nil)))))))) (.cons (.flat rfl) .nil))
    · cases hr
  split at hl
  · rename_i e; rw [eq_of_beq e]; cases hl
    intro args r hr φ args' ha
    unfold find_p at hr
    split at hr
    · cases hr
      cases ha with | cons h1 h2 => cases h2 with | nil =>
      have := Option.some.inj (sym_inv h1)
      subst this
      refine ⟨_, find_always n, fun ψ => ?_⟩
      exact .of_tuples (.cons (.of_aggs (.cons (sl _ 8 _ rfl) (.cons (sl _ 1 _ rfl) (.cons (sl _ 2 _ rfl) (.cons (sl _ 3 _ rfl) (.cons (sl _ 4 _ rfl) (.cons (sl _ 5 _ rfl) (.cons (sl _ 6 _ rfl) (.cons (sl _ 7 _ rfl) .nil))))))))) (.cons (.flat rfl) .nil))
    · cases hr
  split at hl
  · rename_i e; rw [eq_of_beq e]; cases hl
    intro args r hr φ args' ha
    unfold num_p at hr
    split at hr
    · cases hr
      cases ha with | cons h1 h2 => cases h2 with | nil =>
      have := h1.flat_inv rfl
      subst this
      exact ⟨_, num_always _, fun ψ => .of_tuples (.cons (.flat rfl) (.cons (.flat rfl) .nil))⟩
    · split at hr
      case isFalse => cases hr
      rename_i hmiss
      cases hr
      cases ha with | cons h1 h2 => cases h2 with | nil =>
      have := Option.some.inj (sym_inv h1)
      subst this
      refine ⟨_, num_always s, fun ψ => ?_⟩
      rcases name_cases s with ⟨r, hr, g1, _⟩ | ⟨_, g2, g3⟩
      · exact absurd g1 (h hmiss r hr)
      · rw [g2, g3]
        exact .of_tuples (.cons (.flat rfl) (.cons (.flat rfl) .nil))
    · cases hr
  split at hl
  · rename_i e; rw [eq_of_beq e]; cases hl
    exact awakeOk
  · cases hl
theorem nolie (s : ByteArray) : false = true → ∀ r ∈ rows, r.name ≠ s := fun h => by cases h
theorem names_rows_t0 (n : Int) : ((rows.drop 0).take 8).all (fun r => gives (@callP (nmI n r.name false (nolie _)) (nps true false) 4 [sy 0, .string r.name] (heap0 2 gl)) (.bool true)) = true := by kernel_rfl
theorem names_rows_t1 (n : Int) : ((rows.drop 8).take 8).all (fun r => gives (@callP (nmI n r.name false (nolie _)) (nps true false) 4 [sy 0, .string r.name] (heap0 2 gl)) (.bool true)) = true := by kernel_rfl
theorem names_rows_t2 (n : Int) : ((rows.drop 16).take 8).all (fun r => gives (@callP (nmI n r.name false (nolie _)) (nps true false) 4 [sy 0, .string r.name] (heap0 2 gl)) (.bool true)) = true := by kernel_rfl
theorem names_rows_t3 (n : Int) : ((rows.drop 24).take 8).all (fun r => gives (@callP (nmI n r.name false (nolie _)) (nps true false) 4 [sy 0, .string r.name] (heap0 2 gl)) (.bool true)) = true := by kernel_rfl
theorem names_rows_t4 (n : Int) : ((rows.drop 32).take 8).all (fun r => gives (@callP (nmI n r.name false (nolie _)) (nps true false) 4 [sy 0, .string r.name] (heap0 2 gl)) (.bool true)) = true := by kernel_rfl
theorem names_rows_t5 (n : Int) : ((rows.drop 40).take 8).all (fun r => gives (@callP (nmI n r.name false (nolie _)) (nps true false) 4 [sy 0, .string r.name] (heap0 2 gl)) (.bool true)) = true := by kernel_rfl
theorem names_rows_f0 (n : Int) : ((rows.drop 0).take 8).all (fun r => gives (@callP (nmI n r.name false (nolie _)) (nps false false) 4 [sy 0, .string r.name] (heap0 2 gl)) (.bool true)) = true := by kernel_rfl
theorem names_rows_f1 (n : Int) : ((rows.drop 8).take 8).all (fun r => gives (@callP (nmI n r.name false (nolie _)) (nps false false) 4 [sy 0, .string r.name] (heap0 2 gl)) (.bool true)) = true := by kernel_rfl
theorem names_rows_f2 (n : Int) : ((rows.drop 16).take 8).all (fun r => gives (@callP (nmI n r.name false (nolie _)) (nps false false) 4 [sy 0, .string r.name] (heap0 2 gl)) (.bool true)) = true := by kernel_rfl
theorem names_rows_f3 (n : Int) : ((rows.drop 24).take 8).all (fun r => gives (@callP (nmI n r.name false (nolie _)) (nps false false) 4 [sy 0, .string r.name] (heap0 2 gl)) (.bool true)) = true := by kernel_rfl
theorem names_rows_f4 (n : Int) : ((rows.drop 32).take 8).all (fun r => gives (@callP (nmI n r.name false (nolie _)) (nps false false) 4 [sy 0, .string r.name] (heap0 2 gl)) (.bool true)) = true := by kernel_rfl
theorem names_rows_f5 (n : Int) : ((rows.drop 40).take 8).all (fun r => gives (@callP (nmI n r.name false (nolie _)) (nps false false) 4 [sy 0, .string r.name] (heap0 2 gl)) (.bool true)) = true := by kernel_rfl
theorem rows_split : rows = (rows.drop 0).take 8 ++ ((rows.drop 8).take 8 ++ ((rows.drop 16).take 8 ++ ((rows.drop 24).take 8 ++ ((rows.drop 32).take 8 ++ (rows.drop 40).take 8)))) := rfl
theorem names_rows_t (n : Int) : (rows.all fun r => gives (@callP (nmI n r.name false (nolie _)) (nps true false) 4 [sy 0, .string r.name] (heap0 2 gl)) (.bool true)) = true := by
  rw [rows_split]
  simp only [List.all_append, names_rows_t0 n, names_rows_t1 n, names_rows_t2 n, names_rows_t3 n, names_rows_t4 n, names_rows_t5 n, Bool.and_self]
theorem names_rows_f (n : Int) : (rows.all fun r => gives (@callP (nmI n r.name false (nolie _)) (nps false false) 4 [sy 0, .string r.name] (heap0 2 gl)) (.bool true)) = true := by
  rw [rows_split]
  simp only [List.all_append, names_rows_f0 n, names_rows_f1 n, names_rows_f2 n, names_rows_f3 n, names_rows_f4 n, names_rows_f5 n, Bool.and_self]
theorem names_miss_t (n : Int) (s : ByteArray) (h : true = true → ∀ r ∈ rows, r.name ≠ s) : gives (@callP (nmI n s true h) (nps true true) 4 [sy 0, sy 9] (heap0 2 gl)) (.bool true) = true := by kernel_rfl
theorem names_miss_f (n : Int) (s : ByteArray) (h : true = true → ∀ r ∈ rows, r.name ≠ s) : gives (@callP (nmI n s true h) (nps false true) 4 [sy 0, sy 9] (heap0 2 gl)) (.bool true) = true := by kernel_rfl
/-- The law, of any number and any name. -/
theorem names_always (n : Int) (s : ByteArray) : Always Tryd.prog 2 gl 4 [i64 n, .string s] (.bool true) := by
  rcases name_cases s with ⟨r, hr, h1, _⟩ | ⟨h1, _⟩
  · subst h1
    letI := nmI n r.name false (nolie _)
    refine always_to (goodP (nps_ok n r.name false (nolie _))) rfl (args := [sy 0, .string r.name]) (fun φ => .cons (.sym rfl) (.cons (.flat rfl) .nil)) ?_
    cases isRow n with
    | true => exact List.all_eq_true.1 (names_rows_t n) r hr
    | false => exact List.all_eq_true.1 (names_rows_f n) r hr
  · letI := nmI n s true (fun _ => h1)
    refine always_to (goodP (nps_ok n s true (fun _ => h1))) rfl (args := [sy 0, sy 9]) (fun φ => .cons (.sym rfl) (.cons (.sym rfl) .nil)) ?_
    cases isRow n with
    | true => exact names_miss_t n s (fun _ => h1)
    | false => exact names_miss_f n s (fun _ => h1)
end Go.Proofs.YtcfmeiejfofgpaaDoor
