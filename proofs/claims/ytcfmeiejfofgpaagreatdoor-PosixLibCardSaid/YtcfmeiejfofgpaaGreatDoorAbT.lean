/- The abstract evaluator: numbers and strings of which only this is known: that they are not these or those. -/
import Derived.Test.YtcfmeiejfofgpaaGreatDoorAbS
import Derived.Laws.Strings
namespace Go.Ab
open Go.RowKit
set_option linter.unusedVariables false
set_option linter.unusedSectionVars false

def intOrStr : Value → Bool
  | .int _ _ | .string _ => true
  | _ => false
def Dist : Value → Value → Prop
  | .int k a, .int l b => k = l ∧ a ≠ b
  | .string a, .string b => a ≠ b
  | _, _ => False
/-- Does an operation on two symbols, or on one and a value, come to this? -/
def ExOk (σ : Nat → Option Value) (ex : BinOp → Value → Value → Option Value) : Prop :=
  ∀ (P : Program) (w : World) (op : BinOp) (t : TypeId) (a b v a' b' : Value), ex op a b = some v → Sy σ a a' → Sy σ b b' →
    ∃ v', (binOp op t a' b').run P w = .ok v' w ∧ Sy σ v v'
def symCmp (ne : Nat → Value → Bool) (a b : Value) : Option Bool :=
  match a, b with
  | .chan (some i), .chan (some j) => if i = j then some true else none
  | .chan (some i), x => if ne i x = true then some false else none
  | x, .chan (some i) => if ne i x = true then some false else none
  | _, _ => none
theorem Sy.chan {σ : Nat → Option Value} {i : Nat} {v' : Value} (h : Sy σ (.chan (some i)) v') : σ i = some v' := by
  rcases h with ⟨h, _⟩ | ⟨j, h, h2⟩
  · simp [noAddr] at h
  · cases h; exact h2
theorem Dist.inv {x v : Value} (h : Dist x v) : (∃ k a b, x = .int k a ∧ v = .int k b ∧ a ≠ b) ∨ ∃ a b, x = .string a ∧ v = .string b ∧ a ≠ b := by
  cases x <;> cases v <;> first | (exact h.elim) | (obtain ⟨rfl, h⟩ := h; exact .inl ⟨_, _, _, rfl, rfl, h⟩) | exact .inr ⟨_, _, rfl, rfl, h⟩
theorem eqb_str {a b : ByteArray} (h : a ≠ b) : (a.toList == b.toList) = false := by
  rw [beq_eq_false_iff_ne]
  intro e
  rw [ByteArray.toList_eq, ByteArray.toList_eq] at e
  exact h (ByteArray.ext (Array.toList_inj.mp e))
theorem symCmp_ok {σ : Nat → Option Value} {ne : Nat → Value → Bool} (hs : ∀ i v, σ i = some v → intOrStr v = true) (hn : ∀ i x v, ne i x = true → σ i = some v → Dist x v)
    {P : Program} (w : World) (t : TypeId) (x y : Operand) {a b a' b' : Value} {r : Bool} (h : symCmp ne a b = some r) (ha : Sy σ a a') (hb : Sy σ b b') :
    (do eqGuard .eql t x y a' b'; binOp .eql t a' b' : Sem Value).run P w = .ok (.bool r) w ∧ (do eqGuard .neq t x y a' b'; binOp .neq t a' b' : Sem Value).run P w = .ok (.bool (!r)) w := by
  have int : ∀ (k : IntKind) (m n : Int), (do eqGuard .eql t x y (.int k m) (.int k n); binOp .eql t (.int k m) (.int k n) : Sem Value).run P w = .ok (.bool (m == n)) w ∧
      (do eqGuard .neq t x y (.int k m) (.int k n); binOp .neq t (.int k m) (.int k n) : Sem Value).run P w = .ok (.bool (m != n)) w := fun k m n => by
    constructor <;> simp [eqGuard, binOp, Op.intCmp]
  have str : ∀ (m n : ByteArray), (do eqGuard .eql t x y (.string m) (.string n); binOp .eql t (.string m) (.string n) : Sem Value).run P w = .ok (.bool (m.toList == n.toList)) w ∧
      (do eqGuard .neq t x y (.string m) (.string n); binOp .neq t (.string m) (.string n) : Sem Value).run P w = .ok (.bool (!(m.toList == n.toList))) w := fun m n => by
    constructor
    · simp only [eqGuard, binOp_string_eql, Sem.run_bind]; rfl
    · simp only [eqGuard, binOp_string_neq, Sem.run_bind]; rfl
  have two : ∀ (i : Nat) (z v : Value), σ i = some v → ne i z = true → ∀ r' : Bool, r' = false → ((do eqGuard .eql t x y v z; binOp .eql t v z : Sem Value).run P w = .ok (.bool r') w ∧ (do eqGuard .neq t x y v z; binOp .neq t v z : Sem Value).run P w = .ok (.bool (!r')) w) ∧
      ((do eqGuard .eql t x y z v; binOp .eql t z v : Sem Value).run P w = .ok (.bool r') w ∧ (do eqGuard .neq t x y z v; binOp .neq t z v : Sem Value).run P w = .ok (.bool (!r')) w) := by
    intro i z v h1 h2 r' hr
    subst hr
    rcases (hn i z v h2 h1).inv with ⟨k, p, q, rfl, rfl, hpq⟩ | ⟨p, q, rfl, rfl, hpq⟩
    · have e1 : (q == p) = false := beq_eq_false_iff_ne.2 (Ne.symm hpq)
      have e2 : (p == q) = false := beq_eq_false_iff_ne.2 hpq
      obtain ⟨g1, g2⟩ := int k q p
      obtain ⟨g3, g4⟩ := int k p q
      rw [g1, g2, g3, g4]
      simp only [bne, e1, e2, Bool.not_false, and_self]
    · obtain ⟨g1, g2⟩ := str q p
      obtain ⟨g3, g4⟩ := str p q
      rw [g1, g2, g3, g4]
      simp only [eqb_str hpq, eqb_str (Ne.symm hpq), Bool.not_false, and_self]
  unfold symCmp at h
  split at h
  · rename_i i j
    split at h
    case isFalse => cases h
    rename_i hij
    subst hij
    cases h
    have h1 := ha.chan
    have h2 := hb.chan
    rw [h1] at h2; cases h2
    have := hs _ _ h1
    cases a' <;> first | (simp [intOrStr] at this; done) | skip
    · obtain ⟨g1, g2⟩ := int _ _ _
      rw [g1, g2]
      simp
    · obtain ⟨g1, g2⟩ := str _ _
      rw [g1, g2]
      simp
  · rename_i z i hz
    split at h
    case isFalse => cases h
    rename_i hne
    cases h
    have h1 := ha.chan
    rcases hb with ⟨_, rfl⟩ | ⟨j, rfl, _⟩
    · exact (two i _ _ h1 hne false rfl).1
    · exact absurd rfl (hz j)
  · rename_i z i hz
    split at h
    case isFalse => cases h
    rename_i hne
    cases h
    have h1 := hb.chan
    rcases ha with ⟨_, rfl⟩ | ⟨j, rfl, _⟩
    · exact (two i _ _ h1 hne false rfl).2
    · exact absurd rfl (hz j)
  · cases h

def symBin (ne : Nat → Value → Bool) (ex : BinOp → Value → Value → Option Value) (op : BinOp) (a b : Value) : Option Value :=
  match op with
  | .eql => match symCmp ne a b with
    | some r => some (.bool r)
    | none => none
  | .neq => match symCmp ne a b with
    | some r => some (.bool (!r))
    | none => none
  | op => ex op a b
def symEqs (isInt : Nat → Bool) (P : Program) (t : TypeId) (a b : Value) : Bool :=
  match P.underlying t with
  | some (.int _) => match a, b with
    | .chan (some i), .chan (some j) => decide (i = j) && isInt i
    | .int k m, .int l n => decide (k = l) && decide (m = n)
    | _, _ => false
  | _ => false

theorem run_und {P : Program} {t : TypeId} {d : TypeDesc} (w : World) (h : P.underlying t = some d) : (underlying t).run P w = .ok d w := by simp [underlying, h]
@[reducible] def symSg (σ : Nat → Option Value) (ne : Nat → Value → Bool) (isInt : Nat → Bool) (ex : BinOp → Value → Value → Option Value)
    (hs : ∀ i v, σ i = some v → intOrStr v = true) (hn : ∀ i x v, ne i x = true → σ i = some v → Dist x v) (hi : ∀ i v, isInt i = true → σ i = some v → ∃ k n, v = .int k n) (hx : ExOk σ ex) : Sg where
  σ := σ
  sc := fun i v h => by have := hs i v h; cases v <;> first | rfl | (simp [intOrStr] at this)
  bin := fun _ op _ a b => symBin ne ex op a b
  ok := by
    intro P w op t x y a b v a' b' h ha hb
    unfold symBin at h
    split at h
    · split at h
      · rename_i r hr
        cases h
        exact ⟨_, (symCmp_ok hs hn w t x y hr ha hb).1, .inl ⟨rfl, rfl⟩⟩
      · cases h
    · split at h
      · rename_i r hr
        cases h
        exact ⟨_, (symCmp_ok hs hn w t x y hr ha hb).2, .inl ⟨rfl, rfl⟩⟩
      · cases h
    · rename_i h1 h2
      obtain ⟨v', g1, g2⟩ := hx P w op t a b v a' b' h ha hb
      refine ⟨v', ?_, g2⟩
      have : eqGuard op t x y a' b' = pure () := by
        cases op <;> first | rfl | (exact absurd rfl h1) | (exact absurd rfl h2)
      rw [this, Sem.run_bind, Sem.run_pure, Result.andThen_ok, g1]
  eqs := symEqs isInt
  eqs_ok := by
    intro P w d t a b a' b' h ha hb
    unfold symEqs at h
    split at h
    case h_2 => cases h
    rename_i k hu
    split at h
    · rename_i i j
      simp only [Bool.and_eq_true, decide_eq_true_eq] at h
      obtain ⟨rfl, h⟩ := h
      have h1 := ha.chan
      have h2 := hb.chan
      rw [h1] at h2; cases h2
      obtain ⟨l, n, rfl⟩ := hi _ _ h h1
      simp only [Op.equalIn, Sem.run_bind, run_und w hu, Result.andThen_ok, if_true, Sem.run_pure, beq_self_eq_true]
    · rename_i l m l' n
      simp only [Bool.and_eq_true, decide_eq_true_eq] at h
      obtain ⟨rfl, rfl⟩ := h
      rcases ha with ⟨_, rfl⟩ | ⟨j, h, _⟩
      · rcases hb with ⟨_, rfl⟩ | ⟨j, h, _⟩
        · simp only [Op.equalIn, Sem.run_bind, run_und w hu, Result.andThen_ok, if_true, Sem.run_pure, beq_self_eq_true]
        · cases h
      · cases h
    · cases h
end Go.Ab
