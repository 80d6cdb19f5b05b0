/- The abstract evaluator: a region whose order is left open; that the model's comes to the same in each order. -/
import Derived.Test.YtcfmeiejfofgpaaGreatDoorAbK
import Derived.Orders
namespace Go.Ab
open Go.RowKit
set_option linter.unusedVariables false
set_option linter.unusedSectionVars false

/-! ### Are two values the same? -/
mutual
def veq : Value → Value → Bool
  | .bool a, .bool b => decide (a = b)
  | .int k a, .int l b => decide (k = l) && decide (a = b)
  | .float k a, .float l b => decide (k = l) && decide (a = b)
  | .complex k a c, .complex l b d => decide (k = l) && (decide (a = b) && decide (c = d))
  | .string a, .string b => decide (a.data = b.data)
  | .pointer a, .pointer b => decide (a = b)
  | .slice a l c, .slice b m d => decide (a = b) && (decide (l = m) && decide (c = d))
  | .map a, .map b => decide (a = b)
  | .chan a, .chan b => decide (a = b)
  | .func f ⟨p⟩ ⟨c⟩, .func g ⟨q⟩ ⟨d⟩ => decide (f = g) && (veqs p q && veqs c d)
  | .nilFunc, .nilFunc => true
  | .nilIface, .nilIface => true
  | .iface t v, .iface u w => decide (t = u) && veq v w
  | .agg ⟨a⟩, .agg ⟨b⟩ => veqs a b
  | .tuple ⟨a⟩, .tuple ⟨b⟩ => veqs a b
  | _, _ => false
def veqs : List Value → List Value → Bool
  | [], [] => true
  | a :: l, b :: m => veq a b && veqs l m
  | _, _ => false
end
mutual
theorem veq_eq : ∀ (a b : Value), veq a b = true → a = b
  | .bool a, b, h => by cases b <;> simp [veq] at h; rw [h]
  | .int k a, b, h => by cases b <;> simp [veq] at h; rw [h.1, h.2]
  | .float k a, b, h => by cases b <;> simp [veq] at h; rw [h.1, h.2]
  | .complex k a c, b, h => by cases b <;> simp [veq] at h; rw [h.1, h.2.1, h.2.2]
  | .string a, b, h => by cases b <;> simp [veq] at h; rw [ByteArray.ext h]
  | .pointer a, b, h => by cases b <;> simp [veq] at h; rw [h]
  | .slice a l c, b, h => by cases b <;> simp [veq] at h; rw [h.1, h.2.1, h.2.2]
  | .map a, b, h => by cases b <;> simp [veq] at h; rw [h]
  | .chan a, b, h => by cases b <;> simp [veq] at h; rw [h]
  | .func f ⟨p⟩ ⟨c⟩, b, h => by
    cases b <;> simp [veq] at h
    rename_i g q d
    obtain ⟨q⟩ := q
    obtain ⟨d⟩ := d
    simp at h
    rw [h.1, veqs_eq p q h.2.1, veqs_eq c d h.2.2]
  | .nilFunc, b, h => by cases b <;> simp [veq] at h; rfl
  | .nilIface, b, h => by cases b <;> simp [veq] at h; rfl
  | .iface t v, b, h => by
    cases b <;> simp [veq] at h
    rw [h.1, veq_eq v _ h.2]
  | .agg ⟨a⟩, b, h => by
    cases b <;> simp [veq] at h
    rename_i q
    obtain ⟨q⟩ := q
    simp at h
    rw [veqs_eq a q h]
  | .tuple ⟨a⟩, b, h => by
    cases b <;> simp [veq] at h
    rename_i q
    obtain ⟨q⟩ := q
    simp at h
    rw [veqs_eq a q h]
theorem veqs_eq : ∀ (l m : List Value), veqs l m = true → l = m
  | [], m, h => by cases m <;> simp [veqs] at h; rfl
  | a :: l, m, h => by
    cases m <;> simp [veqs] at h
    rw [veq_eq a _ h.1, veqs_eq l _ h.2]
end
mutual
theorem veq_refl : ∀ (a : Value), veq a a = true
  | .bool a => by simp [veq]
  | .int k a => by simp [veq]
  | .float k a => by simp [veq]
  | .complex k a c => by simp [veq]
  | .string a => by simp [veq]
  | .pointer a => by simp [veq]
  | .slice a l c => by simp [veq]
  | .map a => by simp [veq]
  | .chan a => by simp [veq]
  | .func f ⟨p⟩ ⟨c⟩ => by simp [veq, veqs_refl p, veqs_refl c]
  | .nilFunc => by simp [veq]
  | .nilIface => by simp [veq]
  | .iface t v => by simp [veq, veq_refl v]
  | .agg ⟨a⟩ => by simp [veq, veqs_refl a]
  | .tuple ⟨a⟩ => by simp [veq, veqs_refl a]
theorem veqs_refl : ∀ (l : List Value), veqs l l = true
  | [] => by simp [veqs]
  | a :: l => by simp [veqs, veq_refl a, veqs_refl l]
end

section
variable [Sg] {P : Program} {W : World} {K : Nat} {J : Nat → Option Obj} {φ : Map} {h h' : AHeap} {w : World}

/-- Operations that leave the memory as it is. -/
def quiet : Op → Bool
  | .move _ | .assign _ | .pick .. | .build .. | .load .. | .nilCheck _ | .binOp .. | .unOp .. | .convert .. | .sliceToArrayPointer .. | .makeInterface .. | .makeFunc .. | .slice .. | .fieldAddr .. | .field .. | .indexAddr .. | .index ..
  | .lookup .. | .typeAssert .. | .extract .. => true
  | .call c => match c.callee with
    | .builtin .len | .builtin .max | .builtin .min => true
    | _ => false
  | _ => false
/-- Those of them that look at the memory. -/
def reads : Op → Bool
  | .load .. | .binOp .. | .slice .. | .lookup .. => true
  | _ => false

theorem abuiltin_quiet {b : Builtin} {ts : Array TypeId} {vs : List Value} {v : Value} (hb : b = .len ∨ b = .max ∨ b = .min) (e : abuiltin P b ts vs h = some (v, h')) : h' = h ∧ ∀ g, abuiltin P b ts vs g = some (v, g) := by
  rcases hb with rfl | rfl | rfl
  · rcases vs with _ | ⟨x, _ | ⟨y, l⟩⟩
    · simp only [abuiltin] at e; cases e
    · simp only [abuiltin] at e ⊢
      cases ht : ts[0]? with
      | none => rw [ht] at e; cases e
      | some t =>
        rw [ht] at e
        simp only at e ⊢
        cases hl : alen P t x with
        | none => rw [hl] at e; cases e
        | some r => rw [hl] at e; cases e; exact ⟨rfl, fun g => rfl⟩
    · simp only [abuiltin] at e; cases e
  · simp only [abuiltin] at e ⊢
    cases hl : amm true vs with
    | none => rw [hl] at e; cases e
    | some r => rw [hl] at e; cases e; exact ⟨rfl, fun g => rfl⟩
  · simp only [abuiltin] at e ⊢
    cases hl : amm false vs with
    | none => rw [hl] at e; cases e
    | some r => rw [hl] at e; cases e; exact ⟨rfl, fun g => rfl⟩

theorem quiet_call {c : Call} (hq : quiet (.call c) = true) : ∃ b, c.callee = .builtin b ∧ (b = .len ∨ b = .max ∨ b = .min) := by
  simp only [quiet] at hq
  split at hq
  · rename_i h; exact ⟨_, h, .inl rfl⟩
  · rename_i h; exact ⟨_, h, .inr (.inl rfl)⟩
  · rename_i h; exact ⟨_, h, .inr (.inr rfl)⟩
  · cases hq

theorem quiet_same {X : Ext} {op : Op} {ρ : Env} {an : AN} (hq : quiet op = true) (e : aexec P X op ρ h = some (an, h')) : h' = h ∧ ∃ v, an = .val v := by
  cases op <;> (try (simp [quiet] at hq; done)) <;> simp only [aexec] at e
  case call c =>
    obtain ⟨b, hc, hb⟩ := quiet_call hq
    unfold acall at e
    split at e
    · cases e
    rename_i vs hvs
    rw [hc] at e
    simp only at e
    cases hh : abuiltin P b c.argTypes vs h with
    | none => rw [hh] at e; cases e
    | some r =>
      obtain ⟨v, h1⟩ := r
      rw [hh] at e
      cases e
      exact ⟨(abuiltin_quiet hb hh).1, _, rfl⟩
  all_goals (repeat' (split at e <;> try (cases e; done)))
  all_goals (first | (cases e; exact ⟨rfl, _, rfl⟩) | skip)

theorem quiet_free {X : Ext} {op : Op} {ρ : Env} {an : AN} (hq : quiet op = true) (hr : reads op = false) (e : aexec P X op ρ h = some (an, h')) (g : AHeap) : aexec P X op ρ g = some (an, g) := by
  cases op <;> (try (simp [quiet] at hq; done)) <;> (try (simp [reads] at hr; done)) <;> simp only [aexec] at e ⊢
  case call c =>
    obtain ⟨b, hc, hb⟩ := quiet_call hq
    unfold acall at e ⊢
    cases hvs : avals ρ c.args.toList with
    | none => rw [hvs] at e; cases e
    | some vs =>
      rw [hvs] at e
      simp only at e ⊢
      rw [hc] at e ⊢
      simp only at e ⊢
      cases hh : abuiltin P b c.argTypes vs h with
      | none => rw [hh] at e; cases e
      | some r =>
        obtain ⟨v, h1⟩ := r
        rw [hh] at e
        cases e
        rw [(abuiltin_quiet hb hh).2 g]
  all_goals (repeat' (split at e <;> try (cases e; done)))
  all_goals (first | (cases e; simp [*]; done))

theorem avals_congr {ρ σ : Env} : ∀ (l : List Operand), (∀ x ∈ l, ρ x = σ x) → avals ρ l = avals σ l := by
  intro l
  induction l with
  | nil => intro _; rfl
  | cons x r ih => intro h; simp only [avals, h x (by simp), ih (fun y hy => h y (by simp [hy]))]
theorem aparts_congr {ρ σ : Env} : ∀ (l : List (Nat × Operand)), (∀ x ∈ l.map (·.2), ρ x = σ x) → aparts ρ l = aparts σ l := by
  intro l
  induction l with
  | nil => intro _; rfl
  | cons p r ih =>
    obtain ⟨i, x⟩ := p
    intro h
    simp only [aparts, h x (by simp), ih (fun y hy => h y (by rw [List.map_cons]; exact List.mem_cons_of_mem _ hy))]
theorem aopt_congr {ρ σ : Env} {o : Option Operand} (h : ∀ x ∈ o.toArray, ρ x = σ x) : aopt ρ o = aopt σ o := by
  cases o with
  | none => rfl
  | some x => simp only [aopt, h x (by simp)]

theorem aexec_congr {X : Ext} {op : Op} {ρ σ : Env} (h0 : ∀ x ∈ op.operands, ρ x = σ x) : aexec P X op ρ h = aexec P X op σ h := by
  cases op <;> simp only [aexec] <;> simp only [Op.operands] at h0
  case build t ps => rw [aparts_congr ps.toList (fun x hx => h0 x (by simpa using hx))]
  case buildSlice t n ps => rw [aparts_congr ps.toList (fun x hx => h0 x (by simpa using hx))]
  case makeFunc fn p c => rw [avals_congr p.toList (fun x hx => h0 x (by simp at hx ⊢; exact .inl hx)), avals_congr c.toList (fun x hx => h0 x (by simp at hx ⊢; exact .inr hx))]
  case slice t x lo hi mx =>
    rw [h0 x (by simp), aopt_congr (o := lo) (fun y hy => h0 y (by simp only [Array.mem_append]; exact .inl (.inl (.inr hy)))),
      aopt_congr (o := hi) (fun y hy => h0 y (by simp only [Array.mem_append]; exact .inl (.inr hy))), aopt_congr (o := mx) (fun y hy => h0 y (by simp only [Array.mem_append]; exact .inr hy))]
  case call c =>
    have hargs : avals ρ c.args.toList = avals σ c.args.toList := avals_congr _ (fun x hx => h0 x (by simp only [Call.operands, Array.mem_append]; exact .inr (by simpa using hx)))
    unfold acall
    rw [hargs]
    cases hc : c.callee with
    | value f => simp only [h0 f (by simp [Call.operands, hc])]
    | invoke r m => simp only [h0 r (by simp [Call.operands, hc])]
    | builtin b => rfl
  all_goals (first | rfl | (simp only [h0 _ (by simp)]; done) | (simp [h0]; done))
end
end Go.Ab
