/- The abstract evaluator: what is told of calls ahead, put together; and instances of symbols. -/
import Derived.Test.YtcfmeiejfofgpaaGreatDoorAbR
namespace Go.Ab
open Go.RowKit
set_option linter.unusedVariables false
set_option linter.unusedSectionVars false

/-- No symbols at all. -/
@[reducible] def noSg : Sg where
  σ := fun _ => none
  sc := fun _ _ h => by cases h
  bin := fun _ _ _ _ _ => none
  ok := by intro P w op t x y a b v a' b' h; cases h
  eqs := fun _ _ _ _ => false
  eqs_ok := by intro P w d t a b a' b' h; cases h

section
variable [Sg] {P : Program} {W : World} {K : Nat}

abbrev Pures := List (FuncId × (List Value → Option Value))
abbrev Memos := List (FuncId × List Value)
def orcOf (K : Nat) (call : ACall) (ps : Pures) (ms : Memos) : Orc := fun f =>
  if (ps.any fun p => p.1 == f) || (ms.any fun m => m.1 == f) then some fun args h =>
    match ps.lookup f with
    | some p => match p args with
      | some r => some (r, h)
      | none => call f args h
    | none => match ms.find? fun m => m.1 == f && veqs args m.2 with
      | some m => memo K (call f m.2 (heap0 K [])) h
      | none => call f args h
  else none
/-- A table of outcomes tells the truth. -/
def PureOk (P : Program) (K : Nat) (gl : List (Nat × List Value)) (f : FuncId) (p : List Value → Option Value) : Prop :=
  ∀ args r, p args = some r → ∀ φ args', VRs φ args args' → ∃ r', Always P K gl f args' r' ∧ ∀ ψ, VR ψ r r'
theorem orcOk_of {gl : List (Nat × List Value)} (hT : Told W K gl) {call : ACall} (hc : ∀ W, Told W K gl → CallGood P W K call) {ps : Pures} {ms : Memos} (hp : ∀ f p, ps.lookup f = some p → PureOk P K gl f p) (hm : ms.all (fun m => m.2.all (plainV K)) = true) : OrcOk P W K (orcOf K call ps ms) := by
  intro f g hg args h r h' he J φ w args' R ha
  unfold orcOf at hg
  split at hg
  case isFalse => cases hg
  cases hg
  replace he : (match ps.lookup f with
    | some p => match p args with
      | some r => some (r, h)
      | none => call f args h
    | none => match ms.find? fun m => m.1 == f && veqs args m.2 with
      | some m => memo K (call f m.2 (heap0 K [])) h
      | none => call f args h) = some (r, h') := he
  split at he
  · rename_i p hl
    split at he
    · rename_i r0 hr
      cases he
      obtain ⟨r', h1, h2⟩ := hp f p hl args _ hr φ args' ha
      exact h1.orc hT R (h2 φ)
    · exact hc W hT f args h r h' he J φ w args' R ha
  · split at he
    · rename_i m hf
      have h1 := List.find?_some hf
      have h2 := List.mem_of_find?_eq_some hf
      simp only [Bool.and_eq_true] at h1
      have h3 := veqs_eq _ _ h1.2
      subst h3
      exact memo_ok (hc w (hT.later R.below)) (List.all_eq_true.1 hm m h2) he R ha
    · exact hc W hT f args h r h' he J φ w args' R ha

/-- From an evaluation to a law that holds wherever it is asked. -/
theorem always_of {gl : List (Nat × List Value)} {call : ACall} (hc : ∀ W, Told W K gl → CallGood P W K call) {f : FuncId} {args args' : List Value} {r r' : Value} {h' : AHeap} (he : call f args (heap0 K gl) = some (r, h'))
    (ha : ∀ φ, (∀ B, B < K → ∃ cs es, φ B = some ⟨B, 0, es, cs, false⟩) → VRs φ args args') (hr : ∀ φ v, (∀ B, B < K → ∃ cs es, φ B = some ⟨B, 0, es, cs, false⟩) → VR φ r v → v = r') : Always P K gl f args' r' := by
  intro w ht
  have R0 : Rel P w K (fun _ => none) (map0 w K) (heap0 K gl) w := rel0 ht
  refine (hc w ht f args (heap0 K gl) _ _ he _ _ _ _ R0 (ha _ R0.self)).mono fun en w' h => ?_
  obtain ⟨ψ, v, _, h2, h3, h4⟩ := h
  exact ⟨by rw [h2, hr ψ v h4.self h3], h4.below⟩
theorem kok_eq' {φ : Map} (self : ∀ B, B < K → ∃ cs es, φ B = some ⟨B, 0, es, cs, false⟩) {v v' : Value} (hv : kok K v = true) (r : VR φ v v') : v' = v := by
  simp only [kok, Bool.and_eq_true] at hv
  exact kclN_eq' self 6 v v' hv.1 r
def gives (o : Option (Value × AHeap)) (r : Value) : Bool :=
  match o with
  | some (v, _) => veq v r
  | none => false
/-- .. where the outcome is known. -/
theorem always_to {gl : List (Nat × List Value)} {call : ACall} (hc : ∀ W, Told W K gl → CallGood P W K call) {f : FuncId} {args args' : List Value} {r : Value} (hr : kok K r = true) (ha : ∀ φ, VRs φ args args')
    (he : gives (call f args (heap0 K gl)) r = true) : Always P K gl f args' r := by
  unfold gives at he
  split at he
  · rename_i v h' hcall
    have := veq_eq _ _ he
    subst this
    exact always_of hc hcall (fun φ self => ha φ) (fun φ v' self rr => kok_eq' self hr rr)
  · cases he
/-- .. where all is known. -/
theorem always_known {gl : List (Nat × List Value)} {call : ACall} (hc : ∀ W, Told W K gl → CallGood P W K call) {f : FuncId} {args : List Value} {r : Value} (ha : args.all (kok K) = true) (hr : kok K r = true)
    (he : gives (call f args (heap0 K gl)) r = true) : Always P K gl f args r := by
  unfold gives at he
  split at he
  · rename_i v h' hcall
    have := veq_eq _ _ he
    subst this
    refine always_of hc hcall (fun φ self => ?_) (fun φ v' self rr => kok_eq' self hr rr)
    clear hcall
    induction args with
    | nil => exact .nil
    | cons a l ih =>
      simp only [List.all_cons, Bool.and_eq_true] at ha
      exact .cons (kok_VR' self ha.1) (ih ha.2)
  · cases he
end
end Go.Ab
