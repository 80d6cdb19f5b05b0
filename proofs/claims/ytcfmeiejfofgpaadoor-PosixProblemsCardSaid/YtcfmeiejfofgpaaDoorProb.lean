/- The law on problems: of any number and any code. -/
import Derived.Test.YtcfmeiejfofgpaaDoorNames
namespace Go.Proofs.YtcfmeiejfofgpaaDoor
open Go.Ab
set_option maxRecDepth 100000
set_option linter.unusedVariables false

def u64 (n : Int) : Value := .int .u64 n
def codes : List Int := [0, 1, 3, 11, 12, 16, 35, 38, 110]
def isCode (x : Value) : Bool :=
  match x with
  | .int .u64 m => codes.contains m
  | _ => false
def pσ (n c : Int) : Nat → Option Value
  | 0 => some (i64 n)
  | 1 => some (u64 c)
  | 2 => some (u64 (c.tmod 128))
  | _ => none
def pNe (a b : Bool) : Nat → Value → Bool
  | 1, x => a && isCode x
  | 2, x => b && isCode x
  | _, _ => false
/-- code % 128 -/
def pEx (m : Value) : BinOp → Value → Value → Option Value
  | .rem, .chan (some 1), .int .u64 128 => some m
  | _, _, _ => none
theorem pσ_int {n c : Int} {i : Nat} {v : Value} (h : pσ n c i = some v) : ∃ k m, v = .int k m := by
  unfold pσ at h
  split at h <;> first | (cases h; exact ⟨_, _, rfl⟩) | (cases h; done)
@[reducible] def prI (n c : Int) (a b : Bool) (m : Value) (h1 : a = true → ∀ k ∈ codes, c ≠ k) (h2 : b = true → ∀ k ∈ codes, c.tmod 128 ≠ k) (h3 : Sy (pσ n c) m (u64 (c.tmod 128))) : Sg :=
  symSg (pσ n c) (pNe a b) (fun _ => true) (pEx m)
    (fun i v e => by obtain ⟨k, m, rfl⟩ := pσ_int e; rfl)
    (fun i x v e1 e2 => by
      unfold pNe at e1
      split at e1
      · simp only [Bool.and_eq_true] at e1
        cases e2
        unfold isCode at e1
        split at e1
        · rename_i k
          exact ⟨rfl, fun e => h1 e1.1 k (by simpa using e1.2) e.symm⟩
        · cases e1.2
      · simp only [Bool.and_eq_true] at e1
        cases e2
        unfold isCode at e1
        split at e1
        · rename_i k
          exact ⟨rfl, fun e => h2 e1.1 k (by simpa using e1.2) e.symm⟩
        · cases e1.2
      · cases e1)
    (fun i v _ e => pσ_int e)
    (fun P w op t x y v x' y' e hx hy => by
      unfold pEx at e
      split at e
      · cases e
        have hc : x' = u64 c := (Option.some.inj hx.chan).symm
        have hy' : y' = .int .u64 128 := by
          rcases hy with ⟨_, rfl⟩ | ⟨j, h, _⟩
          · rfl
          · cases h
        subst hc hy'
        exact ⟨u64 (c.tmod 128), by simp [u64, binOp, Op.intDiv], h3⟩
      · cases e)
def aps : Pures := [(9, awake_p)]
theorem aps_ok [Sg] : ∀ f p, aps.lookup f = some p → PureOk Tryd.prog 2 gl f p := by
  intro f p hl
  simp only [aps, List.lookup] at hl
  split at hl
  · rename_i e; rw [eq_of_beq e]; cases hl
    exact awakeOk
  · cases hl
theorem no1 (c : Int) : false = true → ∀ k ∈ codes, c ≠ k := fun h => by cases h
theorem sy2 (n c : Int) : Sy (pσ n c) (sy 2) (u64 (c.tmod 128)) := .inr ⟨2, rfl, rfl⟩
theorem prob_lit0 (n c : Int) : ((codes.drop 0).take 3).all (fun k => gives (@callP (prI n c false false (sy 2) (no1 _) (no1 _) (sy2 n c)) aps 3 [sy 0, u64 k] (heap0 2 gl)) (.bool true)) = true := by kernel_rfl
theorem prob_lit1 (n c : Int) : ((codes.drop 3).take 3).all (fun k => gives (@callP (prI n c false false (sy 2) (no1 _) (no1 _) (sy2 n c)) aps 3 [sy 0, u64 k] (heap0 2 gl)) (.bool true)) = true := by kernel_rfl
theorem prob_lit2 (n c : Int) : ((codes.drop 6).take 3).all (fun k => gives (@callP (prI n c false false (sy 2) (no1 _) (no1 _) (sy2 n c)) aps 3 [sy 0, u64 k] (heap0 2 gl)) (.bool true)) = true := by kernel_rfl
theorem prob_mod0 (n c : Int) (h1 : true = true → ∀ k ∈ codes, c ≠ k) (h3 : Sy (pσ n c) (u64 0) (u64 (c.tmod 128))) : gives (@callP (prI n c true false (u64 0) h1 (no1 _) h3) aps 3 [sy 0, sy 1] (heap0 2 gl)) (.bool true) = true := by kernel_rfl
theorem prob_mod1 (n c : Int) (h1 : true = true → ∀ k ∈ codes, c ≠ k) (h3 : Sy (pσ n c) (u64 1) (u64 (c.tmod 128))) : gives (@callP (prI n c true false (u64 1) h1 (no1 _) h3) aps 3 [sy 0, sy 1] (heap0 2 gl)) (.bool true) = true := by kernel_rfl
theorem prob_mod3 (n c : Int) (h1 : true = true → ∀ k ∈ codes, c ≠ k) (h3 : Sy (pσ n c) (u64 3) (u64 (c.tmod 128))) : gives (@callP (prI n c true false (u64 3) h1 (no1 _) h3) aps 3 [sy 0, sy 1] (heap0 2 gl)) (.bool true) = true := by kernel_rfl
theorem prob_mod11 (n c : Int) (h1 : true = true → ∀ k ∈ codes, c ≠ k) (h3 : Sy (pσ n c) (u64 11) (u64 (c.tmod 128))) : gives (@callP (prI n c true false (u64 11) h1 (no1 _) h3) aps 3 [sy 0, sy 1] (heap0 2 gl)) (.bool true) = true := by kernel_rfl
theorem prob_mod12 (n c : Int) (h1 : true = true → ∀ k ∈ codes, c ≠ k) (h3 : Sy (pσ n c) (u64 12) (u64 (c.tmod 128))) : gives (@callP (prI n c true false (u64 12) h1 (no1 _) h3) aps 3 [sy 0, sy 1] (heap0 2 gl)) (.bool true) = true := by kernel_rfl
theorem prob_mod16 (n c : Int) (h1 : true = true → ∀ k ∈ codes, c ≠ k) (h3 : Sy (pσ n c) (u64 16) (u64 (c.tmod 128))) : gives (@callP (prI n c true false (u64 16) h1 (no1 _) h3) aps 3 [sy 0, sy 1] (heap0 2 gl)) (.bool true) = true := by kernel_rfl
theorem prob_mod35 (n c : Int) (h1 : true = true → ∀ k ∈ codes, c ≠ k) (h3 : Sy (pσ n c) (u64 35) (u64 (c.tmod 128))) : gives (@callP (prI n c true false (u64 35) h1 (no1 _) h3) aps 3 [sy 0, sy 1] (heap0 2 gl)) (.bool true) = true := by kernel_rfl
theorem prob_mod38 (n c : Int) (h1 : true = true → ∀ k ∈ codes, c ≠ k) (h3 : Sy (pσ n c) (u64 38) (u64 (c.tmod 128))) : gives (@callP (prI n c true false (u64 38) h1 (no1 _) h3) aps 3 [sy 0, sy 1] (heap0 2 gl)) (.bool true) = true := by kernel_rfl
theorem prob_mod110 (n c : Int) (h1 : true = true → ∀ k ∈ codes, c ≠ k) (h3 : Sy (pσ n c) (u64 110) (u64 (c.tmod 128))) : gives (@callP (prI n c true false (u64 110) h1 (no1 _) h3) aps 3 [sy 0, sy 1] (heap0 2 gl)) (.bool true) = true := by kernel_rfl
theorem prob_else (n c : Int) (h1 : true = true → ∀ k ∈ codes, c ≠ k) (h2 : true = true → ∀ k ∈ codes, c.tmod 128 ≠ k) : gives (@callP (prI n c true true (sy 2) h1 h2 (sy2 n c)) aps 3 [sy 0, sy 1] (heap0 2 gl)) (.bool true) = true := by kernel_rfl
theorem codes_split : codes = (codes.drop 0).take 3 ++ ((codes.drop 3).take 3 ++ (codes.drop 6).take 3) := rfl
theorem prob_lit (n c : Int) : codes.all (fun k => gives (@callP (prI n c false false (sy 2) (no1 _) (no1 _) (sy2 n c)) aps 3 [sy 0, u64 k] (heap0 2 gl)) (.bool true)) = true := by
  rw [codes_split]
  simp only [List.all_append, prob_lit0 n c, prob_lit1 n c, prob_lit2 n c, Bool.and_self]
/-- The law, of any number and any code. -/
theorem prob_always (n c : Int) : Always Tryd.prog 2 gl 3 [i64 n, u64 c] (.bool true) := by
  by_cases hc : c ∈ codes
  · letI := prI n c false false (sy 2) (no1 _) (no1 _) (sy2 n c)
    exact always_to (goodP aps_ok) rfl (args := [sy 0, u64 c]) (fun φ => .cons (.sym rfl) (.cons (.flat rfl) .nil)) (List.all_eq_true.1 (prob_lit n c) c hc)
  · have h1 : true = true → ∀ k ∈ codes, c ≠ k := fun _ k hk e => hc (e ▸ hk)
    by_cases hm : c.tmod 128 ∈ codes
    · have key : ∀ k : Int, c.tmod 128 = k → (∀ h3 : Sy (pσ n c) (u64 k) (u64 (c.tmod 128)), gives (@callP (prI n c true false (u64 k) h1 (no1 _) h3) aps 3 [sy 0, sy 1] (heap0 2 gl)) (.bool true) = true) → Always Tryd.prog 2 gl 3 [i64 n, u64 c] (.bool true) := by
        intro k hk hr
        have h3 : Sy (pσ n c) (u64 k) (u64 (c.tmod 128)) := .inl ⟨rfl, by rw [hk]⟩
        letI := prI n c true false (u64 k) h1 (no1 _) h3
        exact always_to (goodP aps_ok) rfl (args := [sy 0, sy 1]) (fun φ => .cons (.sym rfl) (.cons (.sym rfl) .nil)) (hr h3)
      simp only [codes, List.mem_cons, List.not_mem_nil, or_false] at hm
      rcases hm with h | h | h | h | h | h | h | h | h
      · exact key 0 h (prob_mod0 n c h1)
      · exact key 1 h (prob_mod1 n c h1)
      · exact key 3 h (prob_mod3 n c h1)
      · exact key 11 h (prob_mod11 n c h1)
      · exact key 12 h (prob_mod12 n c h1)
      · exact key 16 h (prob_mod16 n c h1)
      · exact key 35 h (prob_mod35 n c h1)
      · exact key 38 h (prob_mod38 n c h1)
      · exact key 110 h (prob_mod110 n c h1)
    · have h2 : true = true → ∀ k ∈ codes, c.tmod 128 ≠ k := fun _ k hk e => hm (e ▸ hk)
      letI := prI n c true true (sy 2) h1 h2 (sy2 n c)
      exact always_to (goodP aps_ok) rfl (args := [sy 0, sy 1]) (fun φ => .cons (.sym rfl) (.cons (.sym rfl) .nil)) (prob_else n c h1 h2)
end Go.Proofs.YtcfmeiejfofgpaaDoor
