/- The abstract evaluator: a region whose order is left open; that the model's comes to the same in each order. The abstract evaluator: a region whose order is left open comes to the same in each order that its edges let. The abstract evaluator: regions whose order is left open: the proof. The abstract evaluator: code, functions; and that the model's calls come to what it tells. The abstract evaluator: the entries of internal/reflectlite that errors.Is and errors.As come to. The abstract evaluator: where a law begins, and what it comes to. The abstract evaluator: calls whose outcome is known ahead: laws without addresses in what they give, and calls done once for all. The abstract evaluator: what is told of calls ahead, put together; and instances of symbols. The abstract evaluator: numbers and strings of which only this is known: that they are not these or those. -/
import Derived.Test.YtjfohamkkmopgaaGreatDoorAbQ
import Derived.Orders
import Derived.Lib.Bytealg
import Derived.Laws.Externs
import Derived.Laws.Strings
namespace Go.Ab
open Go.RowKit
set_option linter.unusedVariables false
set_option linter.unusedSectionVars false

/-! ### Are two values the same? -/
mutual
def veq : Value → Value → Bool
  | .bool a, .bool b => decide (a = b)
  | .int k a, .int l b => decide (k = l) && decide (a = b)
  | .float k a, .float l b => decide (k = l) && decide (a = b)
  | .complex k a c, .complex l b d => decide (k = l) && (decide (a = b) && decide (c = d))
  | .string a, .string b => decide (a.data = b.data)
  | .pointer a, .pointer b => decide (a = b)
  | .slice a l c, .slice b m d => decide (a = b) && (decide (l = m) && decide (c = d))
  | .map a, .map b => decide (a = b)
  | .chan a, .chan b => decide (a = b)
  | .func f ⟨p⟩ ⟨c⟩, .func g ⟨q⟩ ⟨d⟩ => decide (f = g) && (veqs p q && veqs c d)
  | .nilFunc, .nilFunc => true
  | .nilIface, .nilIface => true
  | .iface t v, .iface u w => decide (t = u) && veq v w
  | .agg ⟨a⟩, .agg ⟨b⟩ => veqs a b
  | .tuple ⟨a⟩, .tuple ⟨b⟩ => veqs a b
  | _, _ => false
def veqs : List Value → List Value → Bool
  | [], [] => true
  | a :: l, b :: m => veq a b && veqs l m
  | _, _ => false
end
mutual
theorem veq_eq : ∀ (a b : Value), veq a b = true → a = b
  | .bool a, b, h => by cases b <;> simp [veq] at h; rw [h]
  | .int k a, b, h => by cases b <;> simp [veq] at h; rw [h.1, h.2]
  | .float k a, b, h => by cases b <;> simp [veq] at h; rw [h.1, h.2]
  | .complex k a c, b, h => by cases b <;> simp [veq] at h; rw [h.1, h.2.1, h.2.2]
  | .string a, b, h => by cases b <;> simp [veq] at h; rw [ByteArray.ext h]
  | .pointer a, b, h => by cases b <;> simp [veq] at h; rw [h]
  | .slice a l c, b, h => by cases b <;> simp [veq] at h; rw [h.1, h.2.1, h.2.2]
  | .map a, b, h => by cases b <;> simp [veq] at h; rw [h]
  | .chan a, b, h => by cases b <;> simp [veq] at h; rw [h]
  | .func f ⟨p⟩ ⟨c⟩, b, h => by
    cases b <;> simp [veq] at h
    rename_i g q d
    obtain ⟨q⟩ := q
    obtain ⟨d⟩ := d
    simp at h
    rw [h.1, veqs_eq p q h.2.1, veqs_eq c d h.2.2]
  | .nilFunc, b, h => by cases b <;> simp [veq] at h; rfl
  | .nilIface, b, h => by cases b <;> simp [veq] at h; rfl
  | .iface t v, b, h => by
    cases b <;> simp [veq] at h
    rw [h.1, veq_eq v _ h.2]
  | .agg ⟨a⟩, b, h => by
    cases b <;> simp [veq] at h
    rename_i q
    obtain ⟨q⟩ := q
    simp at h
    rw [veqs_eq a q h]
  | .tuple ⟨a⟩, b, h => by
    cases b <;> simp [veq] at h
    rename_i q
    obtain ⟨q⟩ := q
    simp at h
    rw [veqs_eq a q h]
theorem veqs_eq : ∀ (l m : List Value), veqs l m = true → l = m
  | [], m, h => by cases m <;> simp [veqs] at h; rfl
  | a :: l, m, h => by
    cases m <;> simp [veqs] at h
    rw [veq_eq a _ h.1, veqs_eq l _ h.2]
end
mutual
theorem veq_refl : ∀ (a : Value), veq a a = true
  | .bool a => by simp [veq]
  | .int k a => by simp [veq]
  | .float k a => by simp [veq]
  | .complex k a c => by simp [veq]
  | .string a => by simp [veq]
  | .pointer a => by simp [veq]
  | .slice a l c => by simp [veq]
  | .map a => by simp [veq]
  | .chan a => by simp [veq]
  | .func f ⟨p⟩ ⟨c⟩ => by simp [veq, veqs_refl p, veqs_refl c]
  | .nilFunc => by simp [veq]
  | .nilIface => by simp [veq]
  | .iface t v => by simp [veq, veq_refl v]
  | .agg ⟨a⟩ => by simp [veq, veqs_refl a]
  | .tuple ⟨a⟩ => by simp [veq, veqs_refl a]
theorem veqs_refl : ∀ (l : List Value), veqs l l = true
  | [] => by simp [veqs]
  | a :: l => by simp [veqs, veq_refl a, veqs_refl l]
end

section
variable [Sg] {P : Program} {W : World} {K : Nat} {J : Nat → Option Obj} {φ : Map} {h h' : AHeap} {w : World}

/-- Operations that leave the memory as it is. -/
def quiet : Op → Bool
  | .move _ | .assign _ | .pick .. | .build .. | .load .. | .nilCheck _ | .binOp .. | .unOp .. | .convert .. | .sliceToArrayPointer .. | .makeInterface .. | .makeFunc .. | .slice .. | .fieldAddr .. | .field .. | .indexAddr .. | .index ..
  | .lookup .. | .typeAssert .. | .extract .. => true
  | .call c => match c.callee with
    | .builtin .len | .builtin .max | .builtin .min => true
    | _ => false
  | _ => false
/-- Those of them that look at the memory. -/
def reads : Op → Bool
  | .load .. | .binOp .. | .slice .. | .lookup .. => true
  | _ => false

theorem abuiltin_quiet {b : Builtin} {ts : Array TypeId} {vs : List Value} {v : Value} (hb : b = .len ∨ b = .max ∨ b = .min) (e : abuiltin P b ts vs h = some (v, h')) : h' = h ∧ ∀ g, abuiltin P b ts vs g = some (v, g) := by
  rcases hb with rfl | rfl | rfl
  · rcases vs with _ | ⟨x, _ | ⟨y, l⟩⟩
    · simp only [abuiltin] at e; cases e
    · simp only [abuiltin] at e ⊢
      cases ht : ts[0]? with
      | none => rw [ht] at e; cases e
      | some t =>
        rw [ht] at e
        simp only at e ⊢
        cases hl : alen P t x with
        | none => rw [hl] at e; cases e
        | some r => rw [hl] at e; cases e; exact ⟨rfl, fun g => rfl⟩
    · simp only [abuiltin] at e; cases e
  · simp only [abuiltin] at e ⊢
    cases hl : amm true vs with
    | none => rw [hl] at e; cases e
    | some r => rw [hl] at e; cases e; exact ⟨rfl, fun g => rfl⟩
  · simp only [abuiltin] at e ⊢
    cases hl : amm false vs with
    | none => rw [hl] at e; cases e
    | some r => rw [hl] at e; cases e; exact ⟨rfl, fun g => rfl⟩

theorem quiet_call {c : Call} (hq : quiet (.call c) = true) : ∃ b, c.callee = .builtin b ∧ (b = .len ∨ b = .max ∨ b = .min) := by
  simp only [quiet] at hq
  split at hq
  · rename_i h; exact ⟨_, h, .inl rfl⟩
  · rename_i h; exact ⟨_, h, .inr (.inl rfl)⟩
  · rename_i h; exact ⟨_, h, .inr (.inr rfl)⟩
  · cases hq

theorem quiet_same {X : Ext} {op : Op} {ρ : Env} {an : AN} (hq : quiet op = true) (e : aexec P X op ρ h = some (an, h')) : h' = h ∧ ∃ v, an = .val v := by
  cases op <;> (try (simp [quiet] at hq; done)) <;> simp only [aexec] at e
  case call c =>
    obtain ⟨b, hc, hb⟩ := quiet_call hq
    unfold acall at e
    split at e
    · cases e
    rename_i vs hvs
    rw [hc] at e
    simp only at e
    cases hh : abuiltin P b c.argTypes vs h with
    | none => rw [hh] at e; cases e
    | some r =>
      obtain ⟨v, h1⟩ := r
      rw [hh] at e
      cases e
      exact ⟨(abuiltin_quiet hb hh).1, _, rfl⟩
  all_goals (repeat' (split at e <;> try (cases e; done)))
  all_goals (first | (cases e; exact ⟨rfl, _, rfl⟩) | skip)

theorem quiet_free {X : Ext} {op : Op} {ρ : Env} {an : AN} (hq : quiet op = true) (hr : reads op = false) (e : aexec P X op ρ h = some (an, h')) (g : AHeap) : aexec P X op ρ g = some (an, g) := by
  cases op <;> (try (simp [quiet] at hq; done)) <;> (try (simp [reads] at hr; done)) <;> simp only [aexec] at e ⊢
  case call c =>
    obtain ⟨b, hc, hb⟩ := quiet_call hq
    unfold acall at e ⊢
    cases hvs : avals ρ c.args.toList with
    | none => rw [hvs] at e; cases e
    | some vs =>
      rw [hvs] at e
      simp only at e ⊢
      rw [hc] at e ⊢
      simp only at e ⊢
      cases hh : abuiltin P b c.argTypes vs h with
      | none => rw [hh] at e; cases e
      | some r =>
        obtain ⟨v, h1⟩ := r
        rw [hh] at e
        cases e
        rw [(abuiltin_quiet hb hh).2 g]
  all_goals (repeat' (split at e <;> try (cases e; done)))
  all_goals (first | (cases e; simp [*]; done))

theorem avals_congr {ρ σ : Env} : ∀ (l : List Operand), (∀ x ∈ l, ρ x = σ x) → avals ρ l = avals σ l := by
  intro l
  induction l with
  | nil => intro _; rfl
  | cons x r ih => intro h; simp only [avals, h x (by simp), ih (fun y hy => h y (by simp [hy]))]
theorem aparts_congr {ρ σ : Env} : ∀ (l : List (Nat × Operand)), (∀ x ∈ l.map (·.2), ρ x = σ x) → aparts ρ l = aparts σ l := by
  intro l
  induction l with
  | nil => intro _; rfl
  | cons p r ih =>
    obtain ⟨i, x⟩ := p
    intro h
    simp only [aparts, h x (by simp), ih (fun y hy => h y (by rw [List.map_cons]; exact List.mem_cons_of_mem _ hy))]
theorem aopt_congr {ρ σ : Env} {o : Option Operand} (h : ∀ x ∈ o.toArray, ρ x = σ x) : aopt ρ o = aopt σ o := by
  cases o with
  | none => rfl
  | some x => simp only [aopt, h x (by simp)]

theorem aexec_congr {X : Ext} {op : Op} {ρ σ : Env} (h0 : ∀ x ∈ op.operands, ρ x = σ x) : aexec P X op ρ h = aexec P X op σ h := by
  cases op <;> simp only [aexec] <;> simp only [Op.operands] at h0
  case build t ps => rw [aparts_congr ps.toList (fun x hx => h0 x (by simpa using hx))]
  case buildSlice t n ps => rw [aparts_congr ps.toList (fun x hx => h0 x (by simpa using hx))]
  case makeFunc fn p c => rw [avals_congr p.toList (fun x hx => h0 x (by simp at hx ⊢; exact .inl hx)), avals_congr c.toList (fun x hx => h0 x (by simp at hx ⊢; exact .inr hx))]
  case slice t x lo hi mx =>
    rw [h0 x (by simp), aopt_congr (o := lo) (fun y hy => h0 y (by simp only [Array.mem_append]; exact .inl (.inl (.inr hy)))),
      aopt_congr (o := hi) (fun y hy => h0 y (by simp only [Array.mem_append]; exact .inl (.inr hy))), aopt_congr (o := mx) (fun y hy => h0 y (by simp only [Array.mem_append]; exact .inr hy))]
  case call c =>
    have hargs : avals ρ c.args.toList = avals σ c.args.toList := avals_congr _ (fun x hx => h0 x (by simp only [Call.operands, Array.mem_append]; exact .inr (by simpa using hx)))
    unfold acall
    rw [hargs]
    cases hc : c.callee with
    | value f => simp only [h0 f (by simp [Call.operands, hc])]
    | invoke r m => simp only [h0 r (by simp [Call.operands, hc])]
    | builtin b => rfl
  all_goals (first | rfl | (simp only [h0 _ (by simp)]; done) | (simp [h0]; done))
end
end Go.Ab
namespace Go.Ab
open Go.RowKit
set_option linter.unusedVariables false
set_option linter.unusedSectionVars false

/-! ### What comes ahead of what -/
def isAnc (ops : Array Oper) (i j : Nat) : Bool := ((Region.before ops).getD i 0).testBit j

def Closed (ops : Array Oper) (S : Nat → Prop) : Prop := ∀ j oj, ops[j]? = some oj → S j → ∀ e ∈ oj.after, Region.binds .any e = true → S e.on

theorem before_size (ops : List Oper) : ∀ acc : Array Nat, (ops.foldl (init := acc) fun acc o =>
    acc.push (o.after.foldl (fun s e => if Region.binds .any e then s ||| 2 ^ e.on ||| acc.getD e.on 0 else s) 0)).size = acc.size + ops.length := by
  induction ops with
  | nil => intro acc; rfl
  | cons o r ih => intro acc; rw [List.foldl_cons, ih]; simp; omega

theorem bits_fold (acc : Array Nat) (j : Nat) : ∀ (l : List Edge) (s : Nat), (l.foldl (fun s e => if Region.binds .any e then s ||| 2 ^ e.on ||| acc.getD e.on 0 else s) s).testBit j = true →
    s.testBit j = true ∨ ∃ e ∈ l, Region.binds .any e = true ∧ (e.on = j ∨ (acc.getD e.on 0).testBit j = true) := by
  intro l
  induction l with
  | nil => intro s h; exact .inl h
  | cons e r ih =>
    intro s h
    rw [List.foldl_cons] at h
    rcases ih _ h with h1 | ⟨e', h1, h2⟩
    · split at h1
      · rename_i hb
        simp only [Nat.testBit_or, Bool.or_eq_true, Nat.testBit_two_pow, decide_eq_true_eq] at h1
        rcases h1 with (h1 | h1) | h1
        · exact .inl h1
        · exact .inr ⟨e, by simp, hb, .inl h1⟩
        · exact .inr ⟨e, by simp, hb, .inr h1⟩
      · exact .inl h1
    · exact .inr ⟨e', by simp [h1], h2⟩

theorem before_fold (ops : Array Oper) (T : Nat → Nat → Prop) (hT : ∀ i o, ops[i]? = some o → ∀ e ∈ o.after, Region.binds .any e = true → T i e.on ∧ ∀ j, T e.on j → T i j) : ∀ (l : List Oper) (acc : Array Nat), (∀ j, l[j]? = ops[acc.size + j]?) →
    (∀ i j, i < acc.size → (acc.getD i 0).testBit j = true → T i j) →
    ∀ i j, ((l.foldl (init := acc) fun acc o => acc.push (o.after.foldl (fun s e => if Region.binds .any e then s ||| 2 ^ e.on ||| acc.getD e.on 0 else s) 0)).getD i 0).testBit j = true → T i j := by
  intro l
  induction l with
  | nil =>
    intro acc _ h i j hij
    rcases Nat.lt_or_ge i acc.size with hlt | hge
    · exact h i j hlt hij
    · simp [Array.getElem?_eq_none hge] at hij
  | cons o r ih =>
    intro acc hl h i j hij
    rw [List.foldl_cons] at hij
    have ho : ops[acc.size]? = some o := by have := hl 0; simpa using this.symm
    refine ih _ (fun k => ?_) (fun i j hlt hij => ?_) i j hij
    · have := hl (k + 1)
      rw [List.getElem?_cons_succ] at this
      rw [this]; simp only [Array.size_push]; congr 1; omega
    · simp only [Array.size_push] at hlt
      by_cases hin : i < acc.size
      · refine h i j hin ?_
        rw [Array.getD_eq_getD_getElem?, Array.getElem?_push_lt hin] at hij
        rw [Array.getD_eq_getD_getElem?, Array.getElem?_eq_getElem hin]
        exact hij
      · have hie : i = acc.size := by omega
        subst hie
        rw [Array.getD_eq_getD_getElem?, Array.getElem?_push_size, Option.getD_some, ← Array.foldl_toList] at hij
        rcases bits_fold acc j _ _ hij with h1 | ⟨e, he, hb, h1⟩
        · simp at h1
        · obtain ⟨t1, t2⟩ := hT _ _ ho e (by simpa using he) hb
          rcases h1 with h1 | h1
          · rw [← h1]; exact t1
          · have hlt2 : e.on < acc.size := by
              rcases Nat.lt_or_ge e.on acc.size with h2 | h2
              · exact h2
              · simp [Array.getElem?_eq_none h2] at h1
            exact t2 j (h _ _ hlt2 h1)

theorem anc_rel {ops : Array Oper} {T : Nat → Nat → Prop} (hT : ∀ i o, ops[i]? = some o → ∀ e ∈ o.after, Region.binds .any e = true → T i e.on ∧ ∀ j, T e.on j → T i j) {i j : Nat} (h : isAnc ops i j = true) : T i j := by
  unfold isAnc Region.before at h
  rw [← Array.foldl_toList] at h
  exact before_fold ops T hT ops.toList #[] (fun j => by simp) (fun i j h => by simp at h) i j h
theorem anc_closed {ops : Array Oper} {S : Nat → Prop} (hS : Closed ops S) {i j : Nat} (h : isAnc ops i j = true) (hi : S i) : S j :=
  anc_rel (T := fun i j => S i → S j) (fun i o ho e he hb => ⟨fun hi => hS i o ho hi e he hb, fun j hj hi => hj (hS i o ho hi e he hb)⟩) h hi

/-! ### What is asked of such a region -/
def regEdges (ops : Array Oper) : Bool := (List.range ops.size).all fun i => match ops[i]? with
  | some o => o.after.all fun e => !Region.binds .any e || decide (e.on < i)
  | none => true
def regDsts (ops : Array Oper) : Bool := (List.range ops.size).all fun i => match ops[i]? with
  | some o => match o.dst with
    | some d => (List.range i).all fun j => match ops[j]? with
      | some p => decide (p.dst ≠ some d)
      | none => true
    | none => true
  | none => true
def regReads (ops : Array Oper) (B : Array Nat) : Bool := (List.range ops.size).all fun i => match ops[i]? with
  | some o => (List.range ops.size).all fun j => match ops[j]? with
    | some p => match p.dst with
      | some d => j == i || !(o.looksAt ops).contains d || (B.getD i 0).testBit j || (B.getD j 0).testBit i
      | none => true
    | none => true
  | none => true
def regMods (ops : Array Oper) (B : Array Nat) : Bool := (List.range ops.size).all fun i => match ops[i]? with
  | some o => quiet o.op || (List.range i).all fun j => match ops[j]? with
    | some p => quiet p.op || (B.getD i 0).testBit j
    | none => true
  | none => true
def regOkB (ops : Array Oper) : Bool := regEdges ops && regDsts ops && regReads ops (Region.before ops) && regMods ops (Region.before ops)

structure RegOk (ops : Array Oper) : Prop where
  edges : ∀ (i : Nat) (o : Oper), ops[i]? = some o → ∀ e ∈ o.after, Region.binds .any e = true → e.on < i
  dsts : ∀ (i j : Nat) (o p : Oper) (d : Tmp), ops[i]? = some o → ops[j]? = some p → o.dst = some d → p.dst = some d → i = j
  reads : ∀ (i j : Nat) (o p : Oper) (d : Tmp), ops[i]? = some o → ops[j]? = some p → p.dst = some d → d ∈ o.looksAt ops → j ≠ i → isAnc ops i j = true ∨ isAnc ops j i = true
  mods : ∀ (i j : Nat) (o p : Oper), ops[i]? = some o → ops[j]? = some p → quiet o.op = false → quiet p.op = false → j < i → isAnc ops i j = true

theorem lt_of_get {α : Type} {a : Array α} {i : Nat} {x : α} (h : a[i]? = some x) : i < a.size := getElem?_lt h

theorem regOk_of {ops : Array Oper} (h : regOkB ops = true) : RegOk ops := by
  simp only [regOkB, Bool.and_eq_true] at h
  obtain ⟨⟨⟨h1, h2⟩, h3⟩, h4⟩ := h
  have hd : ∀ (i j : Nat) (o p : Oper) (d : Tmp), ops[i]? = some o → ops[j]? = some p → o.dst = some d → p.dst = some d → ¬ j < i := by
    intro i j o p d hi hj hdi hdj hlt
    have := List.all_eq_true.1 h2 i (List.mem_range.2 (lt_of_get hi))
    rw [hi] at this
    simp only [hdi] at this
    have := List.all_eq_true.1 this j (List.mem_range.2 hlt)
    rw [hj] at this
    simp only [hdj, ne_eq, not_true_eq_false, decide_false, Bool.false_eq_true] at this
  refine ⟨?_, ?_, ?_, ?_⟩
  · intro i o hi e he hb
    have := List.all_eq_true.1 h1 i (List.mem_range.2 (lt_of_get hi))
    rw [hi] at this
    have := Array.all_eq_true'.1 this e he
    rw [hb] at this
    simpa using this
  · intro i j o p d hi hj hdi hdj
    have a1 := hd i j o p d hi hj hdi hdj
    have a2 := hd j i p o d hj hi hdj hdi
    omega
  · intro i j o p d hi hj hdj hl hne
    have := List.all_eq_true.1 h3 i (List.mem_range.2 (lt_of_get hi))
    rw [hi] at this
    have := List.all_eq_true.1 this j (List.mem_range.2 (lt_of_get hj))
    rw [hj] at this
    simp only [hdj, Bool.or_eq_true, beq_iff_eq, Bool.not_eq_true'] at this
    rcases this with ((h | h) | h) | h
    · exact absurd h hne
    · have : (o.looksAt ops).contains d = true := List.contains_iff_mem.2 hl
      rw [h] at this; cases this
    · exact .inl h
    · exact .inr h
  · intro i j o p hi hj hqi hqj hlt
    have := List.all_eq_true.1 h4 i (List.mem_range.2 (lt_of_get hi))
    rw [hi] at this
    simp only [hqi, Bool.false_or] at this
    have := List.all_eq_true.1 this j (List.mem_range.2 hlt)
    rw [hj] at this
    simp only [hqj, Bool.false_or] at this
    exact this

theorem anc_lt {ops : Array Oper} (ok : RegOk ops) {i j : Nat} (h : isAnc ops i j = true) : j < i :=
  anc_rel (T := fun i j => j < i) (fun i o ho e he hb => by
    have := ok.edges i o ho e he hb
    exact ⟨this, fun j hj => by omega⟩) h

/-! ### The evaluation -/
/-- Ahead of each operation: the slots, the memory, and what it will answer. -/
structure RSt where
  e : PT Value
  h : AHeap
  v : Value

variable [Sg]
def arun (P : Program) (K : Nat) (X : Ext) (call : ACall) (ops : Array Oper) : List Oper → PT Value → AHeap → Option (List RSt)
  | [], e, h => some [⟨e, h, undef⟩]
  | o :: r, e, h => match awanted ops o e with
    | none => none
    | some false => match arun P K X call ops r (aput e o.dst undef) h with
      | none => none
      | some l => some (⟨e, h, undef⟩ :: l)
    | some true => match astep P K X call o.op e h with
      | none => none
      | some (v, h1) => match arun P K X call ops r (aput e o.dst v) h1 with
        | none => none
        | some l => some (⟨e, h, v⟩ :: l)

/-- May the operation i be done when just the writing ones ahead of the place p have been? -/
def allowed (ops : Array Oper) (B : Array Nat) (i p : Nat) : Bool :=
  (List.range ops.size).all fun m => match ops[m]? with
    | some o => quiet o.op || (if m < p then !(B.getD m 0).testBit i else !(B.getD i 0).testBit m)
    | none => true
def places' (ops : Array Oper) : List Nat := 0 :: ((List.range ops.size).filter fun m => match ops[m]? with
  | some o => !quiet o.op
  | none => false).map (· + 1)
/-- Whatever looks at the memory sees the same whenever it is done. -/
def dynOk (P : Program) (K : Nat) (X : Ext) (ops : Array Oper) (B : Array Nat) (st : List RSt) : Bool :=
  (List.range ops.size).all fun i => match ops[i]?, st[i]? with
    | some o, some s => !quiet o.op || !reads o.op || (match awanted ops o s.e with
        | some true => (places' ops).all fun p => match st[p]? with
          | some q => !allowed ops B i p || (match aexec P X o.op (aval K s.e) q.h with
            | some (.val v, _) => veq v s.v
            | _ => false)
          | none => true
        | _ => true)
    | _, _ => true

def adraw (P : Program) (K : Nat) (X : Ext) (call : ACall) (ops : Array Oper) (e : PT Value) (h : AHeap) : Option (PT Value × AHeap) :=
  if regOkB ops = true then match arun P K X call ops ops.toList e h with
  | none => none
  | some st => if dynOk P K X ops (Region.before ops) st = true then match st[ops.size]? with
      | some s => some (s.e, s.h)
      | none => none
    else none
  else none

section
variable {P : Program} {W : World} {K : Nat} {J : Nat → Option Obj} {φ : Map} {h h' : AHeap} {w : World}

/-- What each operation did in the order of the text. -/
def StepAt (P : Program) (K : Nat) (X : Ext) (call : ACall) (ops : Array Oper) (o : Oper) (s t : RSt) : Prop :=
  t.e = aput s.e o.dst s.v ∧ ((awanted ops o s.e = some false ∧ s.v = undef ∧ t.h = s.h) ∨ (awanted ops o s.e = some true ∧ astep P K X call o.op s.e s.h = some (s.v, t.h)))

theorem arun_spec {X : Ext} {call : ACall} {ops : Array Oper} : ∀ (l : List Oper) (e : PT Value) (h : AHeap) (st : List RSt), arun P K X call ops l e h = some st →
    st.length = l.length + 1 ∧ (∃ v, st[0]? = some ⟨e, h, v⟩) ∧ ∀ (i : Nat) (o : Oper), l[i]? = some o → ∃ s t, st[i]? = some s ∧ st[i + 1]? = some t ∧ StepAt P K X call ops o s t := by
  intro l
  induction l with
  | nil =>
    intro e h st he
    simp only [arun, Option.some.injEq] at he
    subst he
    exact ⟨rfl, ⟨_, rfl⟩, fun i o h => by simp at h⟩
  | cons o r ih =>
    intro e h st he
    simp only [arun] at he
    split at he
    · cases he
    · rename_i hw
      split at he
      · cases he
      rename_i st' hst
      cases he
      obtain ⟨h1, ⟨v0, h2⟩, h3⟩ := ih _ _ _ hst
      refine ⟨by simp [h1], ⟨_, rfl⟩, fun i o' hi => ?_⟩
      cases i with
      | zero =>
        simp at hi
        subst hi
        exact ⟨⟨e, h, undef⟩, ⟨aput e o.dst undef, h, v0⟩, rfl, by simpa using h2, rfl, .inl ⟨hw, rfl, rfl⟩⟩
      | succ i =>
        obtain ⟨s, t, g1, g2, g3⟩ := h3 i o' (by simpa using hi)
        exact ⟨s, t, by simpa using g1, by simpa using g2, g3⟩
    · rename_i hw
      split at he
      · cases he
      rename_i v h1' hs
      split at he
      · cases he
      rename_i st' hst
      cases he
      obtain ⟨h1, ⟨v0, h2⟩, h3⟩ := ih _ _ _ hst
      refine ⟨by simp [h1], ⟨_, rfl⟩, fun i o' hi => ?_⟩
      cases i with
      | zero =>
        simp at hi
        subst hi
        exact ⟨⟨e, h, v⟩, ⟨aput e o.dst v, h1', v0⟩, rfl, by simpa using h2, rfl, .inr ⟨hw, hs⟩⟩
      | succ i =>
        obtain ⟨s, t, g1, g2, g3⟩ := h3 i o' (by simpa using hi)
        exact ⟨s, t, by simpa using g1, by simpa using g2, g3⟩

/-- Some slots alone. -/
def only (e : PT Value) (l : List Tmp) : PT Value := l.foldl (fun t s => match e.get s with | some v => t.set s v | none => t) .nil
theorem only_fold (e : PT Value) (s : Nat) : ∀ (l : List Tmp) (t : PT Value), (∀ i v, t.get i = some v → e.get i = some v) →
    (∀ v, (l.foldl (fun t s => match e.get s with | some v => t.set s v | none => t) t).get s = some v → e.get s = some v) ∧
    (s ∈ l ∨ t.get s = e.get s → (l.foldl (fun t s => match e.get s with | some v => t.set s v | none => t) t).get s = e.get s) ∧
    (∀ v, (l.foldl (fun t s => match e.get s with | some v => t.set s v | none => t) t).get s = some v → t.get s = some v ∨ s ∈ l) := by
  intro l
  induction l with
  | nil => intro t h; exact ⟨fun v hv => h s v hv, fun h1 => (by simpa using h1), fun v hv => .inl hv⟩
  | cons x r ih =>
    intro t h
    rw [List.foldl_cons]
    cases hx : e.get x with
    | none =>
      obtain ⟨g1, g2, g3⟩ := ih t h
      refine ⟨g1, fun h1 => g2 ?_, fun v hv => (g3 v hv).imp id (fun h => List.mem_cons_of_mem _ h)⟩
      rcases h1 with h1 | h1
      · rcases List.mem_cons.1 h1 with h1 | h1
        · subst h1
          right
          cases ht : t.get s with
          | none => rw [hx]
          | some v => rw [h _ _ ht] at hx; cases hx
        · exact .inl h1
      · exact .inr h1
    | some u =>
      obtain ⟨g1, g2, g3⟩ := ih (t.set x u) (fun i v hv => by
        rw [PT.get_set] at hv
        split at hv
        · rename_i hxi; subst hxi; cases hv; exact hx
        · exact h i v hv)
      refine ⟨g1, fun h1 => g2 ?_, fun v hv => ?_⟩
      · by_cases hsx : x = s
        · subst hsx; right; rw [PT.get_set_eq, hx]
        · rcases h1 with h1 | h1
          · rcases List.mem_cons.1 h1 with h1 | h1
            · exact absurd h1.symm hsx
            · exact .inl h1
          · right; rw [PT.get_set_ne _ _ hsx]; exact h1
      · rcases g3 v hv with h1 | h1
        · by_cases hsx : x = s
          · right; rw [hsx]; exact List.mem_cons_self
          · rw [PT.get_set_ne _ _ hsx] at h1; exact .inl h1
        · exact .inr (List.mem_cons_of_mem _ h1)
theorem only_get (e : PT Value) (l : List Tmp) (s : Nat) : (∀ v, (only e l).get s = some v → e.get s = some v ∧ s ∈ l) ∧ (s ∈ l → (only e l).get s = e.get s) := by
  obtain ⟨g1, g2, g3⟩ := only_fold e s l .nil (fun i v h => by simp at h)
  exact ⟨fun v hv => ⟨g1 v hv, (g3 v hv).resolve_left (by simp)⟩, fun h => g2 (.inl h)⟩

theorem aval_only {K : Nat} {e : PT Value} {ops : Array Oper} {o : Oper} : ∀ x ∈ o.op.operands, aval K (only e (o.looksAt ops)) x = aval K e x := by
  intro x hx
  cases x with
  | tmp t =>
    simp only [aval]
    refine (only_get e _ t).2 ?_
    exact List.mem_append_left _ (List.mem_filterMap.2 ⟨.tmp t, by simpa using hx, rfl⟩)
  | _ => rfl
theorem awanted_only {e : PT Value} {ops : Array Oper} {o : Oper} : awanted ops o (only e (o.looksAt ops)) = awanted ops o e := by
  unfold awanted
  cases hg : o.guard with
  | none => rfl
  | some jw =>
    obtain ⟨j, want⟩ := jw
    simp only
    cases hd : (ops[j]?).bind (·.dst) with
    | none => rfl
    | some d =>
      simp only
      have : d ∈ o.looksAt ops := by
        unfold Oper.looksAt
        rw [hg]
        refine List.mem_append_right _ ?_
        simp only [hd]
        simp
      rw [(only_get e _ d).2 this]
end
end Go.Ab
namespace Go.Ab
open Go.RowKit
set_option linter.unusedVariables false
set_option linter.unusedSectionVars false

section
variable [Sg] {P : Program} {W : World} {K : Nat} {J : Nat → Option Obj}

/-- The text's run of a region, and all that is known of it. -/
structure Run (P : Program) (K : Nat) (X : Ext) (call : ACall) (ops : Array Oper) (e0 : PT Value) (h0 : AHeap) (st : List RSt) : Prop where
  len : st.length = ops.size + 1
  zero : ∃ v, st[0]? = some ⟨e0, h0, v⟩
  step : ∀ (i : Nat) (o : Oper), ops[i]? = some o → ∃ s t, st[i]? = some s ∧ st[i + 1]? = some t ∧ StepAt P K X call ops o s t

theorem Run.env {X : Ext} {call : ACall} {ops : Array Oper} {e0 : PT Value} {h0 : AHeap} {st : List RSt} (r : Run P K X call ops e0 h0 st) : ∀ (i : Nat) (s : RSt), i ≤ ops.size → st[i]? = some s → ∀ d v, s.e.get d = some v →
    (∃ j o t, j < i ∧ ops[j]? = some o ∧ o.dst = some d ∧ st[j]? = some t ∧ v = t.v) ∨ (e0.get d = some v ∧ ∀ (j : Nat) (o : Oper), j < i → ops[j]? = some o → o.dst ≠ some d) := by
  intro i
  induction i with
  | zero =>
    intro s _ hs d v hv
    obtain ⟨v0, h0'⟩ := r.zero
    rw [hs] at h0'
    cases h0'
    exact .inr ⟨hv, fun j o hj => by omega⟩
  | succ i ih =>
    intro s hi hs d v hv
    obtain ⟨o, ho⟩ : ∃ o, ops[i]? = some o := ⟨ops[i], by simp [show i < ops.size by omega]⟩
    obtain ⟨s0, t, g1, g2, g3, _⟩ := r.step i o ho
    rw [hs] at g2
    cases g2
    rw [g3] at hv
    unfold aput at hv
    split at hv
    · rename_i d' hd'
      rw [PT.get_set] at hv
      split at hv
      · rename_i hdd
        subst hdd
        cases hv
        exact .inl ⟨i, o, s0, by omega, ho, hd', g1, rfl⟩
      · rename_i hdd
        rcases ih s0 (by omega) g1 d v hv with ⟨j, p, t, h1, h2⟩ | ⟨h1, h2⟩
        · exact .inl ⟨j, p, t, by omega, h2⟩
        · refine .inr ⟨h1, fun j p hj hp => ?_⟩
          by_cases hji : j = i
          · subst hji
            rw [ho] at hp; cases hp
            rw [hd']; intro h; cases h; exact hdd rfl
          · exact h2 j p (by omega) hp
    · rename_i hd'
      rcases ih s0 (by omega) g1 d v hv with ⟨j, p, t, h1, h2⟩ | ⟨h1, h2⟩
      · exact .inl ⟨j, p, t, by omega, h2⟩
      · refine .inr ⟨h1, fun j p hj hp => ?_⟩
        by_cases hji : j = i
        · subst hji
          rw [ho] at hp; cases hp
          rw [hd']; intro h; cases h
        · exact h2 j p (by omega) hp

theorem step_quiet {X : Ext} {call : ACall} {ops : Array Oper} {o : Oper} {s t : RSt} (h : StepAt P K X call ops o s t) (hq : quiet o.op = true) : t.h = s.h := by
  obtain ⟨_, h | h⟩ := h
  · exact h.2.2
  · have h := h.2
    unfold astep at h
    split at h
    · cases h
    · rename_i v h1 hx
      cases h
      exact (quiet_same hq hx).1
    · rename_i f args h1 hx
      obtain ⟨_, v, hv⟩ := quiet_same hq hx
      cases hv

/-- Between two places without a writing operation between them the memory is one. -/
theorem Run.same {X : Ext} {call : ACall} {ops : Array Oper} {e0 : PT Value} {h0 : AHeap} {st : List RSt} (r : Run P K X call ops e0 h0 st) {p : Nat} {s : RSt} (hs : st[p]? = some s) : ∀ (k : Nat) (t : RSt), p + k ≤ ops.size → st[p + k]? = some t →
    (∀ (m : Nat) (o : Oper), p ≤ m → m < p + k → ops[m]? = some o → quiet o.op = true) → t.h = s.h := by
  intro k
  induction k with
  | zero => intro t _ ht _; rw [Nat.add_zero] at ht; rw [hs] at ht; cases ht; rfl
  | succ k ih =>
    intro t hk ht hq
    obtain ⟨o, ho⟩ : ∃ o, ops[p + k]? = some o := ⟨ops[p + k], by simp [show p + k < ops.size by omega]⟩
    obtain ⟨s0, t', g1, g2, g3⟩ := r.step _ o ho
    rw [show p + k + 1 = p + (k + 1) by omega, ht] at g2
    cases g2
    rw [step_quiet g3 (hq _ o (by omega) (by omega) ho)]
    exact ih s0 (by omega) g1 (fun m o h1 h2 => hq m o h1 (by omega))

/-- What holds while a region is done, in whatever order. -/
structure Inv (P : Program) (W : World) (K : Nat) (J : Nat → Option Obj) (φ : Map) (ops : Array Oper) (e0 : PT Value) (st : List RSt) (n : Nat) (listed : Array Bool) (a : Act) (w : World) : Prop where
  size : listed.size = ops.size
  closed : Closed ops (fun j => listed.getD j false = true)
  defers : a.defers = []
  tmps : a.tmps.size = n
  mem : ∃ p s ψ, st[p]? = some s ∧ p ≤ ops.size ∧ p ∈ places' ops ∧ (∀ (m : Nat) (o : Oper), ops[m]? = some o → quiet o.op = false → (m < p ↔ listed.getD m false = true)) ∧ φ.le ψ ∧ Rel P W K J ψ s.h w ∧
    (∀ (i : Nat) (o : Oper) (d : Tmp) (t : RSt), ops[i]? = some o → listed.getD i false = true → o.dst = some d → st[i]? = some t → ∃ v', a.tmps[d]? = some v' ∧ VR ψ t.v v') ∧
    (∀ (d : Tmp) (v : Value), e0.get d = some v → (∀ (i : Nat) (o : Oper), ops[i]? = some o → listed.getD i false = true → o.dst ≠ some d) → ∃ v', a.tmps[d]? = some v' ∧ VR ψ v v')

theorem count_set : ∀ (l : List Bool) (i : Nat), l[i]? = some false → (l.set i true).count false + 1 = l.count false := by
  intro l
  induction l with
  | nil => intro i h; simp at h
  | cons b l ih =>
    intro i h
    cases i with
    | zero => simp at h; subst h; simp
    | succ i =>
      simp at h
      have := ih i h
      simp only [List.set_cons_succ, List.count_cons]
      omega

theorem getD_false {listed : Array Bool} {i : Nat} (hi : i < listed.size) (h : listed.getD i true = false) : listed.toList[i]? = some false := by
  simp [hi] at h ⊢; exact h
theorem getD_set' {listed : Array Bool} {i j : Nat} (hi : i < listed.size) : (listed.setIfInBounds i true).getD j false = if i = j then true else listed.getD j false := by
  simp only [Array.getD_eq_getD_getElem?, Array.getElem?_setIfInBounds]
  by_cases h : i = j
  · subst h; simp [hi]
  · simp [h]

theorem mem_places {ops : Array Oper} {m : Nat} {o : Oper} (h : ops[m]? = some o) (hq : quiet o.op = false) : m + 1 ∈ places' ops := by
  refine List.mem_cons_of_mem _ (List.mem_map.2 ⟨m, List.mem_filter.2 ⟨List.mem_range.2 (lt_of_get h), ?_⟩, rfl⟩)
  rw [h]; simp [hq]

theorem put_get_ne {a : Act} {dst : Option Tmp} {d : Tmp} (v : Value) (h : dst ≠ some d) : (a.put dst v).tmps[d]? = a.tmps[d]? := by
  cases dst with
  | none => rfl
  | some e => exact Array.getElem?_setIfInBounds_ne (fun he => h (by rw [he]))

theorem inv_next {φ ψ : Map} {ops : Array Oper} (ok : RegOk ops) {e0 : PT Value} {st : List RSt} {n : Nat} (hd : ∀ o ∈ ops.toList, dstOk n o = true) {listed : Array Bool} {a : Act} {w w' : World} {i : Nat} {o : Oper} {si : RSt} {v' : Value}
    (inv : Inv P W K J φ ops e0 st n listed a w) (ho : ops[i]? = some o) (hun : listed.getD i true = false) (hafter : ∀ e ∈ o.after, Region.binds .any e = true → listed.getD e.on false = true)
    (hanc : ∀ j, isAnc ops i j = true → listed.getD j false = true) (hnot : ∀ q, listed.getD q false = true → isAnc ops q i = false)
    (hsi : st[i]? = some si) (hv : VR ψ si.v v') {p p' : Nat} {s s' : RSt} {ψ0 : Map} (hle0 : ψ0.le ψ) (hle : φ.le ψ)
    (m1 : st[p]? = some s) (m2 : p ≤ ops.size) (m3 : p ∈ places' ops) (m4 : ∀ (m : Nat) (o : Oper), ops[m]? = some o → quiet o.op = false → (m < p ↔ listed.getD m false = true))
    (m7 : ∀ (i : Nat) (o : Oper) (d : Tmp) (t : RSt), ops[i]? = some o → listed.getD i false = true → o.dst = some d → st[i]? = some t → ∃ v', a.tmps[d]? = some v' ∧ VR ψ0 t.v v')
    (m8 : ∀ (d : Tmp) (v : Value), e0.get d = some v → (∀ (i : Nat) (o : Oper), ops[i]? = some o → listed.getD i false = true → o.dst ≠ some d) → ∃ v', a.tmps[d]? = some v' ∧ VR ψ0 v v')
    (hp' : (quiet o.op = true ∧ p' = p) ∨ (quiet o.op = false ∧ p' = i + 1)) (hs' : st[p']? = some s') (R' : Rel P W K J ψ s'.h w') :
    Inv P W K J φ ops e0 st n (listed.setIfInBounds i true) (a.put o.dst v') w' := by
  have hlt : i < listed.size := by rw [inv.size]; exact lt_of_get ho
  have hli : listed.getD i false = false := by simp [hlt] at hun ⊢; exact hun
  have hmem : dstOk n o = true := hd o (by simpa using List.mem_of_getElem? (show ops.toList[i]? = some o by simpa using ho))
  refine ⟨by simpa using inv.size, ?_, by rw [Act.put_defers']; exact inv.defers, ?_, ?_⟩
  · intro j oj hj hl e he hb
    rw [getD_set' hlt] at hl ⊢
    split
    · rfl
    · by_cases hij : i = j
      · subst hij
        rw [ho] at hj; cases hj
        exact hafter e he hb
      · rw [if_neg hij] at hl
        exact inv.closed j oj hj hl e he hb
  · have : (a.put o.dst v').tmps.size = a.tmps.size := by cases o.dst <;> simp [Act.put]
    rw [this]; exact inv.tmps
  · refine ⟨p', s', ψ, hs', ?_, ?_, ?_, hle, R', ?_, ?_⟩
    · rcases hp' with ⟨_, h⟩ | ⟨_, h⟩
      · omega
      · have := lt_of_get ho; omega
    · rcases hp' with ⟨_, h⟩ | ⟨hq, h⟩
      · rw [h]; exact m3
      · rw [h]; exact mem_places ho hq
    · intro m om hm hqm
      rw [getD_set' hlt]
      rcases hp' with ⟨hq, h⟩ | ⟨hq, h⟩
      · have hne : i ≠ m := fun e => by subst e; rw [ho] at hm; cases hm; rw [hq] at hqm; cases hqm
        rw [if_neg hne, h]
        exact m4 m om hm hqm
      · rw [h]
        constructor
        · intro hlm
          by_cases he : i = m
          · rw [if_pos he]
          · rw [if_neg he]
            exact hanc m (ok.mods i m o om ho hm hq hqm (by omega))
        · intro hlm
          by_cases he : i = m
          · omega
          · rw [if_neg he] at hlm
            rcases Nat.lt_or_ge m (i + 1) with h1 | h1
            · exact h1
            · have := hnot m hlm
              rw [ok.mods m i om o hm ho hqm hq (by omega)] at this
              cases this
    · intro j oj d t hj hl hdj ht
      rw [getD_set' hlt] at hl
      by_cases hij : i = j
      · subst hij
        rw [ho] at hj; cases hj
        rw [hsi] at ht; cases ht
        refine ⟨v', ?_, hv⟩
        unfold dstOk at hmem
        rw [hdj] at hmem
        simp only [decide_eq_true_eq] at hmem
        rw [hdj]
        simp [Act.put, inv.tmps, hmem]
      · rw [if_neg hij] at hl
        obtain ⟨u, h1, h2⟩ := m7 j oj d t hj hl hdj ht
        refine ⟨u, ?_, h2.mono hle0⟩
        rw [put_get_ne _ (fun he => hij (ok.dsts i j o oj d ho hj he hdj))]
        exact h1
    · intro d v hv0 hno
      have hod : o.dst ≠ some d := hno i o ho (by rw [getD_set' hlt, if_pos rfl])
      obtain ⟨u, h1, h2⟩ := m8 d v hv0 (fun j oj hj hl => hno j oj hj (by rw [getD_set' hlt]; split; rfl; exact hl))
      exact ⟨u, by rw [put_get_ne _ hod]; exact h1, h2.mono hle0⟩

set_option maxHeartbeats 1000000 in
theorem adraw_any {X : Ext} (hX : ExtOk P W K X) (hN : NamesOk P) {call : ACall} (hc : CallGood P W K call) {ops : Array Oper} {n : Nat} (hd : ∀ o ∈ ops.toList, dstOk n o = true) (ok : RegOk ops) {φ : Map} {e0 : PT Value} {h0 : AHeap} {st : List RSt}
    (r : Run P K X call ops e0 h0 st) (hdyn : dynOk P K X ops (Region.before ops) st = true) {last : RSt} (hlast : st[ops.size]? = some last) {Q : Exit → Act → World → Prop}
    (hQ : ∀ a w, Post P W K J φ n .normal last.e last.h .normal a w → Q .normal a w) :
    ∀ (f : Nat) (listed : Array Bool) (a : Act) (w : World), Inv P W K J φ ops e0 st n listed a w → listed.toList.count false = f → wpAny P .any ops Q f listed a w := by
  have hready : ∀ (listed : Array Bool), listed.size = ops.size → Region.ready .any ops listed = [] → ∀ i, i < ops.size → listed.getD i false = true := by
    intro listed hsz hr i
    induction i using Nat.strongRecOn with
    | _ i ih =>
      intro hi
      cases hli : listed.getD i false with
      | true => rfl
      | false =>
        exfalso
        have hlt : i < listed.size := by omega
        have hmem : i ∈ Region.ready .any ops listed := by
          refine mem_ready.2 ⟨by simp [hlt] at hli ⊢; exact hli, ops[i], by simp [hi], fun e he hb => ?_⟩
          have := ok.edges i ops[i] (by simp [hi]) e he hb
          exact ih e.on this (by omega)
        rw [hr] at hmem; cases hmem
  have hfin : ∀ (listed : Array Bool) (a : Act) (w : World), Inv P W K J φ ops e0 st n listed a w → (∀ i, i < ops.size → listed.getD i false = true) → Q .normal a w := by
    intro listed a w inv hall
    obtain ⟨p, s, ψ, m1, m2, m3, m4, m5, m6, m7, m8⟩ := inv.mem
    refine hQ a w ⟨rfl, inv.defers, ψ, m5, ?_, inv.tmps, fun d v hv => ?_⟩
    · have : last.h = s.h := by
        refine r.same m1 (ops.size - p) last (by omega) (by rw [show p + (ops.size - p) = ops.size by omega]; exact hlast) (fun m o h1 h2 ho => ?_)
        cases hq : quiet o.op with
        | true => rfl
        | false =>
          have := (m4 m o ho hq).2 (hall m (lt_of_get ho))
          omega
      rw [this]; exact m6
    · rcases r.env _ last (Nat.le_refl _) hlast d v hv with ⟨j, o, t, h1, h2, h3, h4, rfl⟩ | ⟨h1, h2⟩
      · exact m7 j o d t h2 (hall j h1) h3 h4
      · exact m8 d v h1 (fun i o ho _ => h2 i o (lt_of_get ho) ho)
  intro f
  induction f with
  | zero =>
    intro listed a w inv hcount
    have hnone : Region.ready .any ops listed = [] := by
      cases hr : Region.ready .any ops listed with
      | nil => rfl
      | cons i l =>
        exfalso
        have hi : i ∈ Region.ready .any ops listed := by rw [hr]; simp
        obtain ⟨h1, o, ho, _⟩ := mem_ready.1 hi
        have hlt : i < listed.size := by rw [inv.size]; exact lt_of_get ho
        have := getD_false hlt h1
        have := count_set _ _ this
        omega
    exact ⟨hnone, hfin listed a w inv (hready listed inv.size hnone)⟩
  | succ f ih =>
    intro listed a w inv hcount
    refine ⟨fun hr => hfin listed a w inv (hready listed inv.size hr), fun i hi => ?_⟩
    obtain ⟨hun, o, ho, hafter⟩ := mem_ready.1 hi
    have hlt : i < listed.size := by rw [inv.size]; exact lt_of_get ho
    have hli : listed.getD i false = false := by simp [hlt] at hun ⊢; exact hun
    have hcnt : (listed.setIfInBounds i true).toList.count false = f := by
      have := count_set _ _ (getD_false hlt hun)
      rw [Array.toList_setIfInBounds]
      omega
    have hanc : ∀ j, isAnc ops i j = true → listed.getD j false = true := by
      intro j hj
      have hcl : Closed ops (fun k => listed.getD k false = true ∨ k = i) := by
        intro k ok' hk hS e he hb
        rcases hS with hS | hS
        · exact .inl (inv.closed k ok' hk hS e he hb)
        · subst hS
          rw [ho] at hk; cases hk
          exact .inl (hafter e he hb)
      rcases anc_closed hcl hj (.inr rfl) with h | h
      · exact h
      · have := anc_lt ok hj; omega
    have hnot : ∀ q, listed.getD q false = true → isAnc ops q i = false := by
      intro q hq
      cases h : isAnc ops q i with
      | false => rfl
      | true =>
        have := anc_closed inv.closed h hq
        rw [hli] at this; cases this
    obtain ⟨p, s, ψ, m1, m2, m3, m4, m5, m6, m7, m8⟩ := inv.mem
    obtain ⟨si, ti, gi, gi1, hsE, hs⟩ := r.step i o ho
    -- the slots that it looks at
    have ER' : ER ψ n (only si.e (o.looksAt ops)) a.tmps := by
      refine ⟨inv.tmps, fun d v hv => ?_⟩
      obtain ⟨hv1, hdl⟩ := (only_get si.e (o.looksAt ops) d).1 v hv
      rcases r.env i si (Nat.le_of_lt (lt_of_get ho)) gi d v hv1 with ⟨j, oj, t, h1, h2, h3, h4, rfl⟩ | ⟨h1, h2⟩
      · have hlj : listed.getD j false = true := by
          rcases ok.reads i j o oj d ho h2 h3 hdl (by omega) with h | h
          · exact hanc j h
          · have := anc_lt ok h; omega
        exact m7 j oj d t h2 hlj h3 h4
      · refine m8 d v h1 (fun q oq hq hlq hdq => ?_)
        have hqi : q ≠ i := fun e => by subst e; rw [hli] at hlq; cases hlq
        have hqgt : ¬ q < i := fun e => h2 q oq e hq hdq
        rcases ok.reads i q o oq d ho hq hdq hdl hqi with h | h
        · have := anc_lt ok h; omega
        · rw [hnot q hlq] at h; cases h
    have hmod : quiet o.op = false → si.h = s.h := by
      intro hq
      by_cases hpi : p ≤ i
      · refine r.same m1 (i - p) si (by have := lt_of_get ho; omega) (by rw [show p + (i - p) = i by omega]; exact gi) (fun m om h1 h2 hm => ?_)
        cases hqm : quiet om.op with
        | true => rfl
        | false =>
          have hlm := hanc m (ok.mods i m o om ho hm hq hqm (by omega))
          have := (m4 m om hm hqm).2 hlm
          omega
      · have := (m4 i o ho hq).1 (by omega)
        rw [hli] at this; cases this
    unfold wpOp
    rw [ho]
    simp only
    rcases hs with ⟨hw, hsv, hth⟩ | ⟨hw, hst⟩
    · rw [awanted_ok ER' (by rw [awanted_only]; exact hw)]
      simp only [Bool.false_eq_true, if_false]
      refine ih _ _ _ ?_ hcnt
      cases hq : quiet o.op with
      | true => exact inv_next ok hd inv ho hun hafter hanc hnot gi (by rw [hsv]; exact VR.undef) (ψ.le_refl) m5 m1 m2 m3 m4 m7 m8 (.inl ⟨hq, rfl⟩) m1 m6
      | false => exact inv_next ok hd inv ho hun hafter hanc hnot gi (by rw [hsv]; exact VR.undef) (ψ.le_refl) m5 m1 m2 m3 m4 m7 m8 (.inr ⟨hq, rfl⟩) gi1 (by rw [hth, hmod hq]; exact m6)
    · rw [awanted_ok ER' (by rw [awanted_only]; exact hw)]
      simp only [if_true]
      left
      have hE := aval_ok m6 ER'
      cases hq : quiet o.op with
      | false =>
        have hst' : astep P K X call o.op (only si.e (o.looksAt ops)) s.h = some (si.v, ti.h) := by
          rw [← hst, hmod hq]
          unfold astep
          rw [aexec_congr (aval_only (K := K) (e := si.e) (ops := ops) (o := o))]
        refine astep_wp hX hN hc (n := n) m6 hE hst' fun ψ' w' v' k1 k2 k3 => ?_
        refine ih _ _ _ ?_ hcnt
        exact inv_next ok hd inv ho hun hafter hanc hnot gi k3 k1 (Map.le_trans m5 k1) m1 m2 m3 m4 m7 m8 (.inr ⟨hq, rfl⟩) gi1 k2
      | true =>
        have hex : aexec P X o.op (aval K si.e) si.h = some (.val si.v, si.h) := by
          unfold astep at hst
          split at hst
          · cases hst
          · rename_i v h1 hx
            cases hst
            have := (quiet_same hq hx).1
            rw [this] at hx; exact hx
          · rename_i f' args h1 hx
            obtain ⟨_, v, hv⟩ := quiet_same hq hx
            cases hv
        have hex2 : aexec P X o.op (aval K si.e) s.h = some (.val si.v, s.h) := by
          cases hr : reads o.op with
          | false => exact quiet_free hq hr hex s.h
          | true =>
            have h1 := List.all_eq_true.1 hdyn i (List.mem_range.2 (lt_of_get ho))
            rw [ho, gi] at h1
            simp only [hq, hr, Bool.not_true, Bool.false_or, hw] at h1
            have h2 := List.all_eq_true.1 h1 p m3
            rw [m1] at h2
            simp only [Bool.or_eq_true, Bool.not_eq_true'] at h2
            rcases h2 with h2 | h2
            · exfalso
              have : allowed ops (Region.before ops) i p = true := by
                refine List.all_eq_true.2 fun m hm => ?_
                cases hom : ops[m]? with
                | none => rfl
                | some om =>
                  simp only [Bool.or_eq_true]
                  cases hqm : quiet om.op with
                  | true => exact .inl rfl
                  | false =>
                    right
                    split
                    · rename_i hmp
                      have hlm := (m4 m om hom hqm).1 hmp
                      have := hnot m hlm
                      unfold isAnc at this
                      rw [this]; rfl
                    · rename_i hmp
                      cases hb : ((Region.before ops).getD i 0).testBit m with
                      | false => rfl
                      | true =>
                        have hlm := hanc m hb
                        exact absurd ((m4 m om hom hqm).2 hlm) hmp
              rw [this] at h2; cases h2
            · cases hx : aexec P X o.op (aval K si.e) s.h with
              | none => rw [hx] at h2; cases h2
              | some r' =>
                obtain ⟨an, h3⟩ := r'
                rw [hx] at h2
                obtain ⟨rfl, v, rfl⟩ := quiet_same hq hx
                simp only at h2
                rw [veq_eq _ _ h2]
        have hst' : astep P K X call o.op (only si.e (o.looksAt ops)) s.h = some (si.v, s.h) := by
          unfold astep
          rw [aexec_congr (aval_only (K := K) (e := si.e) (ops := ops) (o := o)), hex2]
        refine astep_wp hX hN hc (n := n) m6 hE hst' fun ψ' w' v' k1 k2 k3 => ?_
        refine ih _ _ _ ?_ hcnt
        exact inv_next ok hd inv ho hun hafter hanc hnot gi k3 k1 (Map.le_trans m5 k1) m1 m2 m3 m4 m7 m8 (.inl ⟨hq, rfl⟩) m1 k2

theorem adraw_ok {X : Ext} (hX : ExtOk P W K X) (hN : NamesOk P) {call : ACall} (hc : CallGood P W K call) (hm : P.follows .mixedOrders = true) {ops : Array Oper} {n id : Nat} (hd : ∀ o ∈ ops.toList, dstOk n o = true) {φ : Map} {e e' : PT Value} {h h' : AHeap} {a : Act} {w : World}
    (he : adraw P K X call ops e h = some (e', h')) (R : Rel P W K J φ h w) (E : ER φ n e a.tmps) (hdf : a.defers = []) : (Code.region id ops true).wp P (Post P W K J φ n .normal e' h') a w := by
  unfold adraw at he
  split at he
  case isFalse => cases he
  rename_i hok0
  have ok := regOk_of hok0
  split at he
  · cases he
  rename_i st hst
  split at he
  case isFalse => cases he
  rename_i hdyn
  split at he
  case h_2 => cases he
  rename_i last hlast
  cases he
  obtain ⟨h1, h2, h3⟩ := arun_spec _ _ _ _ hst
  have r : Run P K X call ops e h st := ⟨by simpa using h1, h2, fun i o ho => h3 i o (by simpa using ho)⟩
  refine wp_region_any hm ?_
  refine adraw_any hX hN hc hd ok r hdyn hlast (fun a w h => h) ops.size _ a _ ?_ (by simp)
  obtain ⟨v0, h2⟩ := h2
  refine ⟨by simp, fun j oj _ hl => ?_, hdf, E.size, 0, _, φ, h2, Nat.zero_le _, List.mem_cons_self, fun m o hm hq => ⟨fun h => by omega, fun hl => ?_⟩, φ.le_refl, R.drew, fun i o d t _ hl => ?_, fun d v hv _ => E.get d v hv⟩
  all_goals
    exfalso
    simp [Array.getElem?_replicate] at hl
    split at hl <;> simp at hl
end
end Go.Ab
namespace Go.Ab
open Go.RowKit
set_option linter.unusedVariables false
set_option linter.unusedSectionVars false

section
variable [Sg] {P : Program} {W : World} {K : Nat} {J : Nat → Option Obj}

abbrev Out := Option (Exit × PT Value × AHeap)
def iter (f : PT Value → AHeap → Out) : Nat → PT Value → AHeap → Out
  | 0, _, _ => none
  | n + 1, e, h => match f e h with
    | some (.normal, e', h') => iter f n e' h'
    | r => r

def evalC (P : Program) (K : Nat) (X : Ext) (call : ACall) (L : Nat) : Code → PT Value → AHeap → Out
  | .skip, e, h => some (.normal, e, h)
  | .label _, e, h => some (.normal, e, h)
  | .region _ ops draw, e, h => match (if draw then adraw P K X call ops e h else aops P K X call ops ops.toList e h) with
    | none => none
    | some (e', h') => some (.normal, e', h')
  | .seq a b, e, h => match evalC P K X call L a e h with
    | some (.normal, e', h') => evalC P K X call L b e' h'
    | r => r
  | .cond c a b, e, h => match aval K e c with
    | some (.bool true) => evalC P K X call L a e h
    | some (.bool false) => evalC P K X call L b e h
    | _ => none
  | .block id b, e, h => match evalC P K X call L b e h with
    | some (.exit j, e', h') => if j = id then some (.normal, e', h') else some (.exit j, e', h')
    | r => r
  | .loop b, e, h => iter (evalC P K X call L b) L e h
  | .exit id, e, h => some (.exit id, e, h)
  | .ret, e, h => some (.ret, e, h)
  | _, _, _ => none

/-- What is asked of a code before it is evaluated. -/
def codeOk (n : Nat) : Code → Bool
  | .region _ ops draw => ops.toList.all (dstOk n)
  | .seq a b => codeOk n a && codeOk n b
  | .cond _ a b => codeOk n a && codeOk n b
  | .block _ b => codeOk n b
  | .loop b => codeOk n b
  | _ => true

theorem Post.mono {φ ψ : Map} (h : φ.le ψ) {n : Nat} {x : Exit} {e' : PT Value} {h' : AHeap} {y : Exit} {a : Act} {w : World} (p : Post P W K J ψ n x e' h' y a w) : Post P W K J φ n x e' h' y a w :=
  ⟨p.1, p.2.1, by obtain ⟨χ, h1, h2⟩ := p.2.2; exact ⟨χ, Map.le_trans h h1, h2⟩⟩

theorem iter_ok {c : Code} {n : Nat} {f : PT Value → AHeap → Out}
    (hbody : ∀ (φ : Map) (e : PT Value) (h : AHeap) (a : Act) (w : World) (x : Exit) (e' : PT Value) (h' : AHeap), f e h = some (x, e', h') → Rel P W K J φ h w → ER φ n e a.tmps → a.defers = [] → c.wp P (Post P W K J φ n x e' h') a w) :
    ∀ (m : Nat) (φ : Map) (e : PT Value) (h : AHeap) (a : Act) (w : World) (x : Exit) (e' : PT Value) (h' : AHeap), iter f m e h = some (x, e', h') → Rel P W K J φ h w → ER φ n e a.tmps → a.defers = [] →
      ∀ (b : Frame) (k : List Item) (cs : List Frame), ∃ y a' w', Post P W K J φ n x e' h' y a' w' ∧ Arrives P (lone (b.at a (.code c :: .inLoop c :: k)) cs w) b k cs y a' w' := by
  intro m
  induction m with
  | zero => intro φ e h a w x e' h' he; simp [iter] at he
  | succ m ih =>
    intro φ e h a w x e' h' he R E hdf b k cs
    simp only [iter] at he
    split at he
    · rename_i e1 h1 hf
      obtain ⟨y, a1, w1, ⟨rfl, hdf1, ψ, hle, R1, E1⟩, harr⟩ := hbody φ e h a w _ _ _ hf R E hdf b (.inLoop c :: k) cs
      obtain ⟨y2, a2, w2, hp, harr2⟩ := ih ψ e1 h1 a1 w1 x e' h' he R1 E1 hdf1 b k cs
      exact ⟨y2, a2, w2, hp.mono hle, .of_steps (Steps.trans harr (.one step_inLoop)) harr2⟩
    · rename_i hne
      obtain ⟨y, a1, w1, hp, harr⟩ := hbody φ e h a w _ _ _ he R E hdf b (.inLoop c :: k) cs
      obtain ⟨rfl, hp2⟩ := hp
      exact ⟨y, a1, w1, ⟨rfl, hp2⟩, .pass (x := .inLoop c) rfl (fun _ _ => .inl (fun hy => hne e' h' (by rw [he, hy]))) harr⟩

theorem evalC_ok {X : Ext} (hX : ExtOk P W K X) (hN : NamesOk P) {call : ACall} (hc : CallGood P W K call) (hm : P.follows .mixedOrders = true) {L n : Nat} : ∀ (c : Code), codeOk n c = true →
    ∀ (φ : Map) (e : PT Value) (h : AHeap) (a : Act) (w : World) (x : Exit) (e' : PT Value) (h' : AHeap), evalC P K X call L c e h = some (x, e', h') → Rel P W K J φ h w → ER φ n e a.tmps → a.defers = [] → c.wp P (Post P W K J φ n x e' h') a w := by
  intro c
  induction c with
  | skip => intro _ φ e h a w x e' h' he R E hdf; simp only [evalC] at he; cases he; exact wp_skip ⟨rfl, hdf, φ, φ.le_refl, R, E⟩
  | label l => intro _ φ e h a w x e' h' he R E hdf; simp only [evalC] at he; cases he; exact wp_label ⟨rfl, hdf, φ, φ.le_refl, R, E⟩
  | exit id => intro _ φ e h a w x e' h' he R E hdf; simp only [evalC] at he; cases he; exact wp_exit ⟨rfl, hdf, φ, φ.le_refl, R, E⟩
  | ret => intro _ φ e h a w x e' h' he R E hdf; simp only [evalC] at he; cases he; exact wp_ret ⟨rfl, hdf, φ, φ.le_refl, R, E⟩
  | region id ops draw =>
    intro ok φ e h a w x e' h' he R E hdf
    simp only [codeOk] at ok
    have hd : ∀ o ∈ ops.toList, dstOk n o = true := List.all_eq_true.1 ok
    simp only [evalC] at he
    cases draw with
    | false =>
      simp only [Bool.false_eq_true, if_false] at he
      split at he
      · cases he
      rename_i e1 h1 hh
      cases he
      exact aregion_ok hX hN hc hd hh R E hdf
    | true =>
      simp only [if_true] at he
      split at he
      · cases he
      rename_i e1 h1 hh
      cases he
      exact adraw_ok hX hN hc hm hd hh R E hdf
  | seq c1 c2 ih1 ih2 =>
    intro ok φ e h a w x e' h' he R E hdf
    simp only [codeOk, Bool.and_eq_true] at ok
    simp only [evalC] at he
    refine wp_seq ?_
    split at he
    · rename_i e1 h1 hh
      refine wp_mono (ih1 ok.1 φ e h a w _ _ _ hh R E hdf) ?_
      rintro y a1 w1 ⟨rfl, hdf1, ψ, hle, R1, E1⟩
      exact wp_mono (ih2 ok.2 ψ e1 h1 a1 w1 _ _ _ he R1 E1 hdf1) (fun y a2 w2 hp => hp.mono hle)
    · rename_i hne
      refine wp_mono (ih1 ok.1 φ e h a w _ _ _ he R E hdf) ?_
      rintro y a1 w1 hp
      obtain ⟨rfl, hp2⟩ := hp
      cases y with
      | normal => exact absurd he (hne e' h')
      | _ => exact ⟨rfl, hp2⟩
  | cond c c1 c2 ih1 ih2 =>
    intro ok φ e h a w x e' h' he R E hdf
    simp only [codeOk, Bool.and_eq_true] at ok
    simp only [evalC] at he
    split at he
    · rename_i hv
      exact wp_cond_true ((aval_ok R E _ _ hv).flat_inv rfl) (ih1 ok.1 φ e h a w _ _ _ he R E hdf)
    · rename_i hv
      exact wp_cond_false ((aval_ok R E _ _ hv).flat_inv rfl) (ih2 ok.2 φ e h a w _ _ _ he R E hdf)
    · cases he
  | block id c ih =>
    intro ok φ e h a w x e' h' he R E hdf
    simp only [codeOk] at ok
    simp only [evalC] at he
    refine wp_block ?_
    split at he
    · rename_i j e1 h1 hh
      refine wp_mono (ih ok φ e h a w _ _ _ hh R E hdf) ?_
      rintro y a1 w1 ⟨rfl, hp2⟩
      simp only [Exit.inBlock]
      split at he
      · rename_i hj
        cases he
        rw [if_pos hj]
        exact ⟨rfl, hp2⟩
      · rename_i hj
        cases he
        rw [if_neg hj]
        exact ⟨rfl, hp2⟩
    · rename_i hne
      refine wp_mono (ih ok φ e h a w _ _ _ he R E hdf) ?_
      rintro y a1 w1 ⟨rfl, hp2⟩
      cases y with
      | exit j => exact absurd he (hne j e' h')
      | _ => exact ⟨rfl, hp2⟩
  | loop c ih =>
    intro ok φ e h a w x e' h' he R E hdf
    simp only [codeOk] at ok
    simp only [evalC] at he
    intro b k cs
    obtain ⟨y, a', w', hp, harr⟩ := iter_ok (c := c) (n := n) (J := J) (fun φ e h a w x e' h' => ih ok φ e h a w x e' h') L φ e h a w x e' h' he R E hdf b k cs
    exact ⟨y, a', w', hp, .of_steps (.one step_loop) harr⟩
  | _ => intro _ φ e h a w x e' h' he; simp [evalC] at he

/-! ### Functions -/
def aresults (P : Program) : List ResultVar → PT Value → AHeap → Option (List Value)
  | [], _, _ => some []
  | .tmp t :: r, e, h => match e.get t with
    | none => none
    | some v => match aresults P r e h with
      | none => none
      | some l => some (v :: l)
  | .cell a t :: r, e, h => match e.get a with
    | some (.pointer (some p)) => match aload P t p h with
      | none => none
      | some v => match aresults P r e h with
        | none => none
        | some l => some (v :: l)
    | _ => none
def resVal (vs : List Value) : Value :=
  match vs with
  | [v] => v
  | _ => .tuple vs.toArray

theorem aresults_ok {φ : Map} {h : AHeap} {w : World} {n : Nat} {e : PT Value} {tmps : Array Value} (R : Rel P W K J φ h w) (E : ER φ n e tmps) : ∀ (rs : List ResultVar) (vs : List Value), aresults P rs e h = some vs →
    ∃ vs', (rs.mapM fun
      | .tmp t => pure (tmps.getD t undef)
      | .cell a t => do loadVar t (← asAddr (tmps.getD a undef)) : Sem (List Value)).run P w = .ok vs' w ∧ VRs φ vs vs' := by
  intro rs
  induction rs with
  | nil => intro vs hv; simp only [aresults, Option.some.injEq] at hv; subst hv; exact ⟨[], rfl, .nil⟩
  | cons r rs ih =>
    intro vs hv
    cases r with
    | tmp t =>
      simp only [aresults] at hv
      split at hv
      · cases hv
      rename_i v ht
      split at hv
      · cases hv
      rename_i l hl
      cases hv
      obtain ⟨vs', h1, h2⟩ := ih l hl
      obtain ⟨v', g1, g2⟩ := E.get _ _ ht
      refine ⟨v' :: vs', ?_, .cons g2 h2⟩
      rw [List.mapM_cons]
      simp only [Sem.run_bind, Sem.run_pure, Result.andThen_ok, h1]
      simp [g1]
    | cell a t =>
      simp only [aresults] at hv
      split at hv
      case h_2 => cases hv
      rename_i p hp
      split at hv
      · cases hv
      rename_i v hld
      split at hv
      · cases hv
      rename_i l hl
      cases hv
      obtain ⟨vs', h1, h2⟩ := ih l hl
      obtain ⟨v', g1, g2⟩ := E.get _ _ hp
      obtain ⟨x, hx, hs, rfl⟩ := g2.ptr_inv
      obtain ⟨u, k1, k2⟩ := aload_ok R hld hx
      refine ⟨u :: vs', ?_, .cons k2 h2⟩
      rw [List.mapM_cons]
      have hg : tmps.getD a undef = .pointer (some ⟨x.b, p.off + x.d, none⟩) := by simp [g1]
      have hg2 : (asAddr (tmps.getD a undef)).run P w = .ok ⟨x.b, p.off + x.d, none⟩ w := by rw [hg]; rfl
      simp only [Sem.run_bind, hg2, Sem.run_pure, Result.andThen_ok, k1, h1]

/-- What is told of some functions ahead of their code. -/
abbrev Orc := FuncId → Option (List Value → AHeap → Option (Value × AHeap))

def evalFn (P : Program) (K : Nat) (X : Ext) (O : Orc) (ok : FuncId → Bool) (L : Nat) : Nat → ACall
  | 0, _, _, _ => none
  | d + 1, f, args, h => match O f with
    | some g => g args h
    | none => if ok f = true then match P.funcs[f]? with
        | none => none
        | some fn => match fn.body with
          | none => none
          | some c => if args.length ≤ fn.ntmps then match evalC P K X (evalFn P K X O ok L d) L c (PT.ofList args) h with
              | some (.normal, e, h') => match aresults P fn.results.toList e h' with
                | none => none
                | some vs => some (resVal vs, h')
              | some (.ret, e, h') => match aresults P fn.results.toList e h' with
                | none => none
                | some vs => some (resVal vs, h')
              | _ => none
            else none
      else none

/-- The functions that are evaluated have code that may be. -/
def FnsOk (P : Program) (ok : FuncId → Bool) : Prop := ∀ (f : FuncId) (fn : Func) (c : Code), ok f = true → P.funcs[f]? = some fn → fn.body = some c → codeOk fn.ntmps c = true
/-- What is told of functions ahead of their code is so. -/
def OrcOk (P : Program) (W : World) (K : Nat) (O : Orc) : Prop := ∀ f g, O f = some g → ∀ args h r h', g args h = some (r, h') → ∀ J φ w args', Rel P W K J φ h w → VRs φ args args' →
    Calls P f args'.toArray w fun en w' => ∃ ψ r', φ.le ψ ∧ en = .returned r' ∧ VR ψ r r' ∧ Rel P W K J ψ h' w'

theorem results_ok {φ : Map} {h : AHeap} {w : World} {n : Nat} {e : PT Value} {tmps : Array Value} {fn : Func} {vs : List Value} (R : Rel P W K J φ h w) (E : ER φ n e tmps) (hv : aresults P fn.results.toList e h = some vs) :
    ∃ v', (results fn tmps).run P w = .ok v' w ∧ VR φ (resVal vs) v' := by
  obtain ⟨vs', h1, h2⟩ := aresults_ok R E _ _ hv
  unfold results
  have hm : (fn.results.mapM fun
      | .tmp t => pure (tmps.getD t undef)
      | .cell a t => do loadVar t (← asAddr (tmps.getD a undef)) : Sem (Array Value)).run P w = .ok vs'.toArray w := by
    rw [show fn.results = fn.results.toList.toArray by simp, List.mapM_toArray]
    simp only [Sem.run_map]
    have : fn.results.toList.toArray.toList = fn.results.toList := by simp
    rw [h1]
    rfl
  refine ⟨if h : vs'.toArray.size = 1 then vs'.toArray[0] else .tuple vs'.toArray, ?_, ?_⟩
  · rw [Sem.run_bind]
    exact congrArg (fun r : Result (Array Value) => r.andThen fun a w' => (pure (if h : a.size = 1 then a[0] else .tuple a) : Sem Value).run P w') hm
  · cases h2 with
    | nil => exact .of_tuples .nil
    | cons a1 a2 =>
      cases a2 with
      | nil => exact a1
      | cons a3 a4 =>
        rw [dif_neg (by simp)]
        exact .of_tuples (.cons a1 (.cons a3 a4))

theorem evalFn_good {X : Ext} (hX : ExtOk P W K X) (hN : NamesOk P) {O : Orc} (hO : OrcOk P W K O) {ok : FuncId → Bool} (hok : FnsOk P ok) (hm : P.follows .mixedOrders = true) {L : Nat} : ∀ d, CallGood P W K (evalFn P K X O ok L d) := by
  intro d
  induction d with
  | zero => intro f args h r h' he; simp [evalFn] at he
  | succ d ih =>
    intro f args h r h' he J φ w args' R ha
    simp only [evalFn] at he
    split at he
    · rename_i g hg
      exact hO f g hg args h r h' he J φ w args' R ha
    split at he
    case isFalse => cases he
    rename_i hokf
    split at he
    · cases he
    rename_i fn hfn
    split at he
    · cases he
    rename_i c hb
    split at he
    case isFalse => cases he
    rename_i hlen
    have hcode := hok f fn c hokf hfn hb
    have E : ER φ fn.ntmps (PT.ofList args) (args'.toArray ++ Array.replicate (fn.ntmps - args'.toArray.size) undef) := by
      have hl := ha.length
      refine ⟨by simp; omega, fun i v hv => ?_⟩
      rw [PT.get_ofList] at hv
      obtain ⟨v', h1, h2⟩ := ha.get i v hv
      refine ⟨v', ?_, h2⟩
      have hlt : i < args'.length := by
        rcases Nat.lt_or_ge i args'.length with h | h
        · exact h
        · rw [List.getElem?_eq_none h] at h1; cases h1
      rw [Array.getElem?_append_left (by simpa using hlt)]
      simpa using h1
    have fin : ∀ (x : Exit) (e : PT Value) (h1 : AHeap) (vs : List Value), (x = .normal ∨ x = .ret) → evalC P K X (evalFn P K X O ok L d) L c (PT.ofList args) h = some (x, e, h1) → aresults P fn.results.toList e h1 = some vs →
        Calls P f args'.toArray w fun en w' => ∃ ψ r', φ.le ψ ∧ en = .returned r' ∧ VR ψ (resVal vs) r' ∧ Rel P W K J ψ h1 w' := by
      intro x e h1 vs hx hev hres
      refine calls_of_wp hfn hb (wp_mono (evalC_ok hX hN ih hm c hcode φ _ h { tmps := args'.toArray ++ Array.replicate (fn.ntmps - args'.toArray.size) undef, defers := [] } w x e h1 hev R E rfl) ?_)
      rintro y a w' ⟨rfl, hdf, ψ, hle, R', E'⟩
      obtain ⟨v', k1, k2⟩ := results_ok R' E' hres
      rcases hx with rfl | rfl <;> exact ⟨hdf, v', k1, ψ, v', hle, rfl, k2, R'⟩
    split at he
    · rename_i e h1 hev
      split at he
      · cases he
      rename_i vs hvs
      cases he
      exact fin _ e _ vs (.inl rfl) hev hvs
    · rename_i e h1 hev
      split at he
      · cases he
      rename_i vs hvs
      cases he
      exact fin _ e _ vs (.inr rfl) hev hvs
    · cases he
end
end Go.Ab
namespace Go.Ab
open Go.RowKit Go.Extern
set_option linter.unusedVariables false
set_option linter.unusedSectionVars false

section
variable [Sg] {P : Program} {W : World} {K : Nat} {J : Nat → Option Obj} {φ : Map} {h h' : AHeap} {w : World}

/-- Values whose addresses stand for themselves. -/
def kclN (K : Nat) : Nat → Value → Bool
  | _, .bool _ | _, .int _ _ | _, .string _ | _, .nilFunc | _, .nilIface => true
  | _, .pointer none | _, .map none | _, .chan none | _, .slice none _ _ => true
  | _, .pointer (some a) => decide (a.block < K)
  | n + 1, .iface _ v => kclN K n v
  | n + 1, .agg c => c.toList.all (kclN K n)
  | n + 1, .tuple c => c.toList.all (kclN K n)
  | _, _ => false
abbrev kcl (K : Nat) (v : Value) : Bool := kclN K 6 v

theorem kclN_eq' (self : ∀ B, B < K → ∃ cs es, φ B = some ⟨B, 0, es, cs, false⟩) : ∀ (n : Nat) (v v' : Value), kclN K n v = true → VR φ v v' → v' = v := by
  have ptr : ∀ (a : Addr) (v' : Value), a.block < K → VR φ (.pointer (some a)) v' → v' = .pointer (some a) := by
    intro a v' ha r
    obtain ⟨x, hx, hs, rfl⟩ := r.ptr_inv
    obtain ⟨cs, es, hself⟩ := self _ ha
    rw [hx] at hself; cases hself
    obtain ⟨b, o, s⟩ := a
    simp only at hs
    subst hs
    rfl
  intro n
  induction n with
  | zero =>
    intro v v' h r
    cases v with
    | pointer o => cases o with | none => exact r.flat_inv rfl | some a => exact ptr a v' (by simpa [kclN] using h) r
    | _ => first | (exact r.flat_inv rfl) | (simp [kclN] at h; done) | (rename_i o; cases o <;> first | (exact r.flat_inv rfl) | (simp [kclN] at h; done)) | (rename_i o _ _; cases o <;> first | (exact r.flat_inv rfl) | (simp [kclN] at h; done))
  | succ n ih =>
    have arr : ∀ l l' : List Value, l.all (kclN K n) = true → VRs φ l l' → l' = l := by
      intro l l' h r
      induction r with
      | nil => rfl
      | cons h1 _ ih2 =>
        simp only [List.all_cons, Bool.and_eq_true] at h
        rw [ih _ _ h.1 h1, ih2 h.2]
    intro v v' h r
    cases v with
    | pointer o => cases o with | none => exact r.flat_inv rfl | some a => exact ptr a v' (by simpa [kclN] using h) r
    | iface t v => simp only [kclN] at h; obtain ⟨u, rfl, hu⟩ := r.iface_inv; rw [ih _ _ h hu]
    | agg c => simp only [kclN] at h; obtain ⟨u, rfl, hu⟩ := r.agg_inv; have := arr _ _ h hu; rw [Array.toList_inj.1 this]
    | tuple c => simp only [kclN] at h; obtain ⟨u, rfl, hu⟩ := r.tuple_inv; have := arr _ _ h hu; rw [Array.toList_inj.1 this]
    | _ => first | (exact r.flat_inv rfl) | (simp [kclN] at h; done) | (rename_i o; cases o <;> first | (exact r.flat_inv rfl) | (simp [kclN] at h; done)) | (rename_i o _ _; cases o <;> first | (exact r.flat_inv rfl) | (simp [kclN] at h; done))
theorem kclN_eq (R : Rel P W K J φ h w) (n : Nat) (v v' : Value) (hv : kclN K n v = true) (r : VR φ v v') : v' = v := kclN_eq' R.self n v v' hv r
/-- The same, with no address inside a cell. -/
def kspN : Nat → Value → Bool
  | _, .pointer (some a) => a.spot.isNone
  | n + 1, .iface _ v => kspN n v
  | n + 1, .agg c => c.toList.all (kspN n)
  | n + 1, .tuple c => c.toList.all (kspN n)
  | _, _ => true
theorem kclN_VR (self : ∀ B, B < K → ∃ cs es, φ B = some ⟨B, 0, es, cs, false⟩) : ∀ (n : Nat) (v : Value), kclN K n v = true → kspN n v = true → VR φ v v := by
  have ptr : ∀ (a : Addr), a.block < K → a.spot.isNone = true → VR φ (.pointer (some a)) (.pointer (some a)) := by
    intro a ha hs
    obtain ⟨cs, es, hself⟩ := self _ ha
    have hs' : a.spot = none := by simpa using hs
    have := VR.ptr (a := a) hself hs'
    obtain ⟨b, o, s⟩ := a
    simp only at hs'
    subst hs'
    exact this
  intro n
  induction n with
  | zero =>
    intro v h hs
    cases v with
    | pointer o => cases o with | none => exact .flat rfl | some a => exact ptr a (by simpa [kclN] using h) (by simpa [kspN] using hs)
    | _ => first | (exact .flat rfl) | (simp [kclN] at h; done) | (rename_i o; cases o <;> first | (exact .flat rfl) | (simp [kclN] at h; done)) | (rename_i o _ _; cases o <;> first | (exact .flat rfl) | (simp [kclN] at h; done))
  | succ n ih =>
    have arr : ∀ l : List Value, l.all (kclN K n) = true → l.all (kspN n) = true → VRs φ l l := by
      intro l h hs
      induction l with
      | nil => exact .nil
      | cons v l ih2 =>
        simp only [List.all_cons, Bool.and_eq_true] at h hs
        exact .cons (ih v h.1 hs.1) (ih2 h.2 hs.2)
    intro v h hs
    cases v with
    | pointer o => cases o with | none => exact .flat rfl | some a => exact ptr a (by simpa [kclN] using h) (by simpa [kspN] using hs)
    | iface t v => simp only [kclN] at h; simp only [kspN] at hs; exact .iface (ih v h hs)
    | agg c => simp only [kclN] at h; simp only [kspN] at hs; exact .of_aggs (arr _ h hs)
    | tuple c => simp only [kclN] at h; simp only [kspN] at hs; exact .of_tuples (arr _ h hs)
    | _ => first | (exact .flat rfl) | (simp [kclN] at h; done) | (rename_i o; cases o <;> first | (exact .flat rfl) | (simp [kclN] at h; done)) | (rename_i o _ _; cases o <;> first | (exact .flat rfl) | (simp [kclN] at h; done))

def kok (K : Nat) (v : Value) : Bool := kclN K 6 v && kspN 6 v
theorem kok_VR' (self : ∀ B, B < K → ∃ cs es, φ B = some ⟨B, 0, es, cs, false⟩) {v : Value} (hv : kok K v = true) : VR φ v v := by
  simp only [kok, Bool.and_eq_true] at hv; exact kclN_VR self 6 v hv.1 hv.2
theorem kok_VR (R : Rel P W K J φ h w) {v : Value} (hv : kok K v = true) : VR φ v v := kok_VR' R.self hv
theorem kok_eq (R : Rel P W K J φ h w) {v v' : Value} (hv : kok K v = true) (r : VR φ v v') : v' = v := by
  simp only [kok, Bool.and_eq_true] at hv; exact kclN_eq R 6 v v' hv.1 r

inductive XF where
  | valueOf | vtype | isNil | velem | vset | typeOf
  | pure (e : Array Value → Sem Value)
  | fidx | fcnt

def XF.row : XF → Array Value → Sem Value
  | .valueOf => fun args => ReflectliteValue.unpack (args.getD 0 (.tuple #[]))
  | .vtype => ReflectliteValue.methodAny (ReflectliteValue.valueError "reflectlite.Value.Type" 0) fun t _ _ _ => ReflectliteType.toType t
  | .isNil => ReflectliteValue.method (ReflectliteValue.valueError "reflectlite.Value.IsNil" 0) ReflectliteValue.isNil
  | .velem => ReflectliteValue.method (ReflectliteValue.valueError "reflectlite.Value.Elem" 0) ReflectliteValue.elem
  | .vset => ReflectliteValue.set
  | .typeOf => ReflectliteType.typeOf
  | .pure e => e
  | .fidx => BytealgIndexByte.indexByte
  | .fcnt => BytealgCount.count

/-- Where a byte lies first in a string; how often. -/
noncomputable def posV (c : Nat) (l : List UInt8) (i : Nat) : Value := @List.rec UInt8 (fun _ => Nat → Value) (fun _ => .int .i64 (-1)) (fun a _ ih i => cond (Nat.beq a.toNat c) (.int .i64 (.ofNat i)) (ih (Nat.succ i))) l i
noncomputable def cntV (c : Nat) (l : List UInt8) (n : Nat) : Value := @List.rec UInt8 (fun _ => Nat → Value) (fun n => .int .i64 (.ofNat n)) (fun a _ ih n => cond (Nat.beq a.toNat c) (ih (Nat.succ n)) (ih n)) l n
omit [Sg] in
theorem byte_beq {a : UInt8} {c : Nat} (hc : c < 256) : Nat.beq a.toNat c = (a == c.toUInt8) := by
  rw [Bool.eq_iff_iff]
  rw [beq_iff_eq]
  constructor
  · intro h; have h := Nat.eq_of_beq_eq_true h; subst h; simp
  · intro h
    subst h
    have : (c.toUInt8).toNat = c := by simp; omega
    rw [this]; simp
omit [Sg] in
theorem posV_eq {c : Nat} (hc : c < 256) : ∀ (l : List UInt8) (i : Nat), posV c l i = .int .i64 (if Lib.indexByte l c.toUInt8 = -1 then -1 else Lib.indexByte l c.toUInt8 + i) := by
  intro l
  induction l with
  | nil => intro i; rfl
  | cons a l ih =>
    intro i
    show cond (Nat.beq a.toNat c) (.int .i64 (.ofNat i)) (posV c l (Nat.succ i)) = _
    rw [byte_beq hc, ih]
    have e1 : Lib.indexByte (a :: l) c.toUInt8 = if a == c.toUInt8 then 0 else if Lib.indexByte l c.toUInt8 == -1 then -1 else Lib.indexByte l c.toUInt8 + 1 := rfl
    rw [e1]
    have hge := Lib.indexByte_ge l c.toUInt8
    cases hb : a == c.toUInt8 with
    | true => simp
    | false =>
      simp only [cond_false, Bool.false_eq_true, if_false, beq_iff_eq]
      by_cases h1 : Lib.indexByte l c.toUInt8 = -1
      · simp [h1]
      · rw [if_neg h1, if_neg h1, if_neg (by omega)]
        congr 1
        have : ((Nat.succ i : Nat) : Int) = (i : Int) + 1 := by omega
        omega
omit [Sg] in
theorem cntV_eq {c : Nat} (hc : c < 256) : ∀ (l : List UInt8) (n : Nat), cntV c l n = .int .i64 ((Lib.countByte l c.toUInt8 + n : Nat) : Int) := by
  intro l
  induction l with
  | nil => intro n; simp [cntV, Lib.countByte]
  | cons a l ih =>
    intro n
    show cond (Nat.beq a.toNat c) (cntV c l (Nat.succ n)) (cntV c l n) = _
    rw [byte_beq hc, ih, ih]
    unfold Lib.countByte
    rw [List.count_cons]
    cases hb : a == c.toUInt8 with
    | true => simp only [cond_true, if_true]; congr 1; omega
    | false => simp only [cond_false, Bool.false_eq_true, if_false]; congr 1

/-- The parts of a reflectlite.Value. -/
def vparts (P : Program) (K : Nat) (v : Value) : Option (TypeId × Addr × Nat) :=
  match v with
  | .agg c => match c.toList with
    | [hd, .pointer (some a), .int .u64 f] => if kok K hd = true ∧ 0 < f then match pureRun P (do let t ← Rtype.ofHandle hd; Rtype.noPack "a Value asked or handed on" t; pure t) with
        | some t => some (t, a, f.toNat)
        | none => none
      else none
    | _ => none
  | _ => none
theorem vparts_ok {v v' : Value} {t : TypeId} {a : Addr} {f : Nat} (R : Rel P W K J φ h w) (e : vparts P K v = some (t, a, f)) (hv : VR φ v v') :
    ∃ x, φ a.block = some x ∧ ∀ w' : World, (ReflectliteValue.parts v').run P w' = .ok (some (t, ⟨x.b, a.off + x.d, none⟩, f)) w' ∧ (ReflectliteValue.partsAny v').run P w' = .ok (some (t, ⟨x.b, a.off + x.d, none⟩, f)) w' := by
  unfold vparts at e
  split at e
  case h_2 => cases e
  rename_i c
  obtain ⟨c', rfl, hc⟩ := hv.agg_inv
  split at e
  case h_2 => cases e
  rename_i hd b g hl
  split at e
  case isFalse => cases e
  rename_i hk
  split at e
  case h_2 => cases e
  rename_i t' ht
  cases e
  rw [hl] at hc
  obtain ⟨cl⟩ := c'
  simp only at hc
  cases hc with
  | @cons _ hd' _ _ h1 hc => cases hc with
    | cons h2 hc => cases hc with
      | @cons _ g' _ _ h3 hc =>
        cases hc
        obtain ⟨x, hx, hs, rfl⟩ := h2.ptr_inv
        have e1 : hd = hd' := (kok_eq R hk.1 h1).symm
        subst e1
        have e2 := h3.flat_inv rfl
        subst e2
        obtain ⟨n, rfl⟩ : ∃ n : Nat, g = ((n + 1 : Nat) : Int) := ⟨g.toNat - 1, by omega⟩
        rw [pureRun_bind] at ht
        cases ho : pureRun P (Rtype.ofHandle hd) with
        | none => rw [ho] at ht; cases ht
        | some t0 =>
          rw [ho] at ht
          simp only [Option.bind_some] at ht
          rw [pureRun_bind] at ht
          cases hp : pureRun P (Rtype.noPack "a Value asked or handed on" t0) with
          | none => rw [hp] at ht; cases ht
          | some u =>
            rw [hp] at ht
            simp only [Option.bind_some] at ht
            have : t0 = t := by cases ht; rfl
            subst this
            refine ⟨x, hx, fun w' => ?_⟩
            have q : (ReflectliteValue.partsAny (.agg ⟨[hd, .pointer (some ⟨x.b, a.off + x.d, none⟩), .int .u64 ((n + 1 : Nat) : Int)]⟩)).run P w' = .ok (some (t0, ⟨x.b, a.off + x.d, none⟩, (((n + 1 : Nat) : Int)).toNat)) w' := by
              show (Rtype.ofHandle hd >>= fun t => pure (some (t, (⟨x.b, a.off + x.d, none⟩ : Addr), (((n + 1 : Nat) : Int)).toNat))).run P w' = _
              rw [Sem.run_bind, pureRun_run P w' _ _ ho]
              rfl
            refine ⟨?_, q⟩
            unfold ReflectliteValue.parts
            rw [Sem.run_bind, q]
            simp only [Result.andThen_ok, Sem.run_bind, pureRun_run P w' _ _ hp, Sem.run_pure]

def isNilB : Value → Bool
  | .chan none | .nilFunc | .nilIface | .map none | .pointer none | .slice none _ _ => true
  | _ => false
def addrK (a : Addr) : Value := .pointer (some a)

noncomputable def xrun (P : Program) (K : Nat) (x : XF) (args : List Value) (h : AHeap) : Option (Value × AHeap) :=
  match x, args with
  | .valueOf, [.iface t v] => match pureRun P (do let hd ← Rtype.handle t; let k ← Rtype.kind t; pure (hd, k)) with
    | some (hd, k) => if kok K hd = true then some (.agg #[hd, (anew t v h).1, .int .u64 (Int.ofNat (k + 128 + 0))], (anew t v h).2) else none
    | none => none
  | .vtype, [v] => match vparts P K v with
    | some (t, _, _) => match pureRun P (ReflectliteType.toType t) with
      | some r => if kok K r = true then some (r, h) else none
      | none => none
    | none => none
  | .isNil, [v] => match vparts P K v with
    | some (t, a, f) => if [18, 19, 20, 21, 22, 23, 26].contains (f % 32) = true then match aload P t a h with
        | some u => match u with
          | .agg _ => none
          | u => some (.bool (isNilB u), h)
        | none => none
      else none
    | none => none
  | .velem, [v] => match vparts P K v with
    | some (t, a, f) => if f % 32 = 22 then match aload P t a h with
        | some (.pointer (some p)) => match pureRun P (Rtype.elem? t) with
          | some (some e) => match pureRun P (do let hd ← Rtype.handle e; let k ← Rtype.kind e; pure (hd, k)) with
            | some (hd, k) => if kok K hd = true then some (.agg #[hd, .pointer (some p), .int .u64 (Int.ofNat (k + 128 + 256))], h) else none
            | none => none
          | _ => none
        | _ => none
      else none
    | none => none
  | .vset, [v, y] => match vparts P K v, vparts P K y with
    | some (dst, a, fl), some (src, b, _) => if fl / 256 % 2 = 0 then none else match aload P src b h with
      | some u => match pureRun P (Rtype.directlyAssignable dst src) with
        | some true => match astore P dst a u h with
          | some h1 => some (.tuple #[], h1)
          | none => none
        | _ => none
      | none => none
    | _, _ => none
  | .typeOf, [.iface t _] => match pureRun P (ReflectliteType.toType t) with
    | some r => if kok K r = true then some (r, h) else none
    | none => none
  | .pure e, args => if args.all (kok K) = true then match pureRun P (e args.toArray) with
      | some r => if kok K r = true then some (r, h) else none
      | none => none
    else none
  | .fidx, [.string s, .int .u8 (.ofNat c)] => cond (Nat.blt c 256) (some (posV c s.data.toList 0, h)) none
  | .fcnt, [.string s, .int .u8 (.ofNat c)] => cond (Nat.blt c 256) (some (cntV c s.data.toList 0, h)) none
  | _, _ => none

theorem pure2 {α β γ : Type} {s : Sem α} {t : Sem β} {f : α → β → γ} {r : γ} (e : pureRun P (do let a ← s; let b ← t; pure (f a b)) = some r) : ∃ a b, pureRun P s = some a ∧ pureRun P t = some b ∧ r = f a b := by
  rw [pureRun_bind] at e
  cases hs : pureRun P s with
  | none => rw [hs] at e; cases e
  | some a =>
    rw [hs] at e
    simp only [Option.bind_some] at e
    rw [pureRun_bind] at e
    cases ht : pureRun P t with
    | none => rw [ht] at e; cases e
    | some b =>
      rw [ht] at e
      simp only [Option.bind_some] at e
      cases e
      exact ⟨a, b, rfl, rfl, rfl⟩

theorem vset_run {v y val : Value} {dst src : TypeId} {a b : Addr} {fl fl2 : Nat} {w w' : World} (h1 : (ReflectliteValue.parts v).run P w = .ok (some (dst, a, fl)) w) (h2 : (ReflectliteValue.parts y).run P w = .ok (some (src, b, fl2)) w)
    (hf : ¬ fl / 256 % 2 = 0) (hl : (loadVar src b).run P w = .ok val w) (hd : pureRun P (Rtype.directlyAssignable dst src) = some true) (hs : (storeVar dst a val).run P w = .ok () w') : (ReflectliteValue.set #[v, y]).run P w = .ok (.tuple #[]) w' := by
  show (ReflectliteValue.parts v >>= _ : Sem Value).run P w = _
  rw [Sem.run_bind, h1, Result.andThen_ok]
  show (ReflectliteValue.parts y >>= _ : Sem Value).run P w = _
  rw [Sem.run_bind, h2, Result.andThen_ok]
  have hb : (fl / ReflectliteValue.flagAddr % 2 == 0) = false := beq_eq_false_iff_ne.2 hf
  simp only [hb, Bool.false_eq_true, if_false, Sem.run_bind, hl, Result.andThen_ok, pureRun_run P w _ _ hd, if_true, hs, Sem.run_pure]

theorem xrun_ok {x : XF} {args args' : List Value} {v : Value} (R : Rel P W K J φ h w) (e : xrun P K x args h = some (v, h')) (ha : VRs φ args args') :
    ∃ ψ w' v', φ.le ψ ∧ (x.row args'.toArray).run P w = .ok v' w' ∧ Rel P W K J ψ h' w' ∧ VR ψ v v' := by
  unfold xrun at e
  split at e
  · rename_i t u
    cases ha with
    | cons h1 ha =>
      cases ha
      obtain ⟨u', rfl, hu⟩ := h1.iface_inv
      split at e
      case h_2 => cases e
      rename_i hd k hp
      obtain ⟨hd0, k0, p1, p2, p3⟩ := pure2 (f := Prod.mk) hp
      cases p3
      split at e
      case isFalse => cases e
      rename_i hk
      cases e
      obtain ⟨ψ, w', a, k1, k2, k3, k4⟩ := anew_ok (t := t) R hu
      refine ⟨ψ, w', .agg #[hd, .pointer (some a), .int .u64 (Int.ofNat (k + 128 + 0))], k1, ?_, k3, .of_aggs (.cons (kok_VR k3 hk) (.cons k4 (.cons (.flat rfl) .nil)))⟩
      show (ReflectliteValue.unpack (.iface t u')).run P w = _
      simp only [ReflectliteValue.unpack, Sem.run_bind, k2, Result.andThen_ok, ReflectliteValue.mk, pureRun_run P w' _ _ p1, pureRun_run P w' _ _ p2, Sem.run_pure]
      rfl
  · rename_i u
    cases ha with
    | @cons _ u' _ _ h1 ha =>
      cases ha
      split at e
      case h_2 => cases e
      rename_i t a f hp
      split at e
      case h_2 => cases e
      rename_i r hr
      split at e
      case isFalse => cases e
      rename_i hk
      have e1 : r = v ∧ h = h' := by simpa using e
      obtain ⟨rfl, rfl⟩ := e1
      obtain ⟨x, hx, q⟩ := vparts_ok R hp h1
      refine ⟨φ, w, r, φ.le_refl, ?_, R, kok_VR R hk⟩
      have hm : XF.row .vtype #[u'] = (ReflectliteValue.partsAny u' >>= fun r => match r with | none => ReflectliteValue.valueError "reflectlite.Value.Type" 0 | some (t, a, fl) => ReflectliteType.toType t) := rfl
      show (XF.row .vtype #[u']).run P w = _
      rw [hm, Sem.run_bind, (q w).2]
      exact pureRun_run P w _ _ hr
  · rename_i u
    cases ha with
    | @cons _ u' _ _ h1 ha =>
      cases ha
      split at e
      case h_2 => cases e
      rename_i t a f hp
      split at e
      case isFalse => cases e
      rename_i hc
      split at e
      case h_2 => cases e
      rename_i u0 hl
      split at e
      · cases e
      rename_i hna
      cases e
      obtain ⟨x, hx, q⟩ := vparts_ok R hp h1
      obtain ⟨v', l1, l2⟩ := aload_ok R hl hx
      refine ⟨φ, w, .bool (isNilB u0), φ.le_refl, ?_, R, .flat rfl⟩
      have hm : XF.row .isNil #[u'] = (ReflectliteValue.parts u' >>= fun r => match r with | none => ReflectliteValue.valueError "reflectlite.Value.IsNil" 0 | some (t, a, fl) => ReflectliteValue.isNil t a fl (fl % 32)) := rfl
      show (XF.row .isNil #[u']).run P w = _
      rw [hm, Sem.run_bind, (q w).1]
      show (ReflectliteValue.isNil t ⟨x.b, a.off + x.d, none⟩ f (f % 32)).run P w = _
      unfold ReflectliteValue.isNil
      rw [hc]
      simp only [Bool.not_true, Bool.false_eq_true, if_false, Sem.run_bind, l1, Result.andThen_ok]
      cases l2 with
      | flat hf =>
        cases u0 with
        | pointer o => cases o <;> rfl
        | map o => cases o <;> rfl
        | chan o => cases o <;> rfl
        | slice o _ _ => cases o <;> rfl
        | agg c => exact absurd rfl (hna c)
        | _ => rfl
      | sym hs =>
        have := Sg.sc _ _ hs
        cases v' <;> first | rfl | (simp [scalar] at this; done)
      | _ => rfl
  · rename_i u
    cases ha with
    | @cons _ u' _ _ h1 ha =>
      cases ha
      split at e
      case h_2 => cases e
      rename_i t a f hp
      split at e
      case isFalse => cases e
      rename_i hc
      split at e
      case h_2 => cases e
      rename_i p hl
      split at e
      case h_2 => cases e
      rename_i el hel
      split at e
      case h_2 => cases e
      rename_i hd k hpp
      obtain ⟨hd0, k0, p1, p2, p3⟩ := pure2 (f := Prod.mk) hpp
      cases p3
      split at e
      case isFalse => cases e
      rename_i hk
      cases e
      obtain ⟨x, hx, q⟩ := vparts_ok R hp h1
      obtain ⟨v', l1, l2⟩ := aload_ok R hl hx
      obtain ⟨y, hy, hsp, rfl⟩ := l2.ptr_inv
      refine ⟨φ, w, .agg #[hd, .pointer (some ⟨y.b, p.off + y.d, none⟩), .int .u64 (Int.ofNat (k + 128 + 256))], φ.le_refl, ?_, R, .of_aggs (.cons (kok_VR R hk) (.cons l2 (.cons (.flat rfl) .nil)))⟩
      have hm : XF.row .velem #[u'] = (ReflectliteValue.parts u' >>= fun r => match r with | none => ReflectliteValue.valueError "reflectlite.Value.Elem" 0 | some (t, a, fl) => ReflectliteValue.elem t a fl (fl % 32)) := rfl
      show (XF.row .velem #[u']).run P w = _
      rw [hm, Sem.run_bind, (q w).1]
      show (ReflectliteValue.elem t ⟨x.b, a.off + x.d, none⟩ f (f % 32)).run P w = _
      unfold ReflectliteValue.elem
      rw [hc, if_neg (by decide)]
      simp only [Sem.run_bind, l1, Result.andThen_ok, pureRun_run P w _ _ hel]
      show (ReflectliteValue.mk el ⟨y.b, p.off + y.d, none⟩ 256).run P w = _
      simp only [ReflectliteValue.mk, Sem.run_bind, pureRun_run P w _ _ p1, pureRun_run P w _ _ p2, Result.andThen_ok, Sem.run_pure]
      rfl
  · rename_i u y
    cases ha with
    | @cons _ u' _ _ h1 ha => cases ha with
      | @cons _ y' _ _ h2 ha =>
        cases ha
        split at e
        case h_2 => cases e
        rename_i dst a fl src b fl2 hp1 hp2
        split at e
        · cases e
        rename_i hfl
        split at e
        case h_2 => cases e
        rename_i u0 hl
        split at e
        case h_2 => cases e
        rename_i hda
        split at e
        case h_2 => cases e
        rename_i h1' hst
        cases e
        obtain ⟨x, hx, q1⟩ := vparts_ok R hp1 h1
        obtain ⟨z, hz, q2⟩ := vparts_ok R hp2 h2
        obtain ⟨v', l1, l2⟩ := aload_ok R hl hz
        obtain ⟨w', s1, s2⟩ := astore_ok R hst hx l2
        refine ⟨φ, w', .tuple #[], φ.le_refl, ?_, s2, .of_tuples .nil⟩
        exact vset_run (q1 w).1 (q2 w).1 hfl l1 hda s1
  · rename_i t u
    cases ha with
    | cons h1 ha =>
      cases ha
      obtain ⟨u', rfl, hu⟩ := h1.iface_inv
      split at e
      case h_2 => cases e
      rename_i r hr
      split at e
      case isFalse => cases e
      rename_i hk
      obtain ⟨rfl, rfl⟩ : r = v ∧ h = h' := by simpa using e
      exact ⟨φ, w, r, φ.le_refl, pureRun_run P w _ _ hr, R, kok_VR R hk⟩
  · rename_i ee args
    split at e
    case isFalse => cases e
    rename_i hall
    split at e
    case h_2 => cases e
    rename_i r hr
    split at e
    case isFalse => cases e
    rename_i hk
    obtain ⟨rfl, rfl⟩ : r = v ∧ h = h' := by simpa using e
    have key : ∀ l l' : List Value, VRs φ l l' → l.all (kok K) = true → l' = l := by
      intro l l' hl
      induction hl with
      | nil => intro _; rfl
      | cons h1 _ ih =>
        intro hall
        simp only [List.all_cons, Bool.and_eq_true] at hall
        rw [kok_eq R hall.1 h1, ih hall.2]
    have := key _ _ ha hall
    subst this
    exact ⟨φ, w, r, φ.le_refl, pureRun_run P w _ _ hr, R, kok_VR R hk⟩
  · rename_i s c
    cases hc : Nat.blt c 256 with
    | false => rw [hc] at e; cases e
    | true =>
      rw [hc] at e
      simp only [Nat.blt] at hc
      have hc := Nat.le_of_ble_eq_true hc
      cases e
      have hv : args' = [.string s, .int .u8 (.ofNat c)] := by
        cases ha with | cons h1 h2 => cases h2 with | cons h2 h3 => cases h3; rw [h1.flat_inv rfl, h2.flat_inv rfl]
      subst hv
      refine ⟨φ, w, _, φ.le_refl, Lib.run_indexByteString s (.ofNat c) w, R, ?_⟩
      rw [posV_eq hc]
      have e0 : (Int.ofNat c).toNat.toUInt8 = c.toUInt8 := rfl
      rw [e0]
      have : (if Lib.indexByte s.data.toList c.toUInt8 = -1 then -1 else Lib.indexByte s.data.toList c.toUInt8 + ((0 : Nat) : Int)) = Lib.indexByte s.data.toList c.toUInt8 := by
        split
        · rename_i h; rw [h]
        · simp
      rw [this]
      exact .flat rfl
  · rename_i s c
    cases hc : Nat.blt c 256 with
    | false => rw [hc] at e; cases e
    | true =>
      rw [hc] at e
      simp only [Nat.blt] at hc
      have hc := Nat.le_of_ble_eq_true hc
      cases e
      have hv : args' = [.string s, .int .u8 (.ofNat c)] := by
        cases ha with | cons h1 h2 => cases h2 with | cons h2 h3 => cases h3; rw [h1.flat_inv rfl, h2.flat_inv rfl]
      subst hv
      refine ⟨φ, w, _, φ.le_refl, Lib.run_countString s (.ofNat c) w, R, ?_⟩
      rw [cntV_eq hc]
      exact .flat rfl
  · cases e

/-- The entries, by the functions' numbers. -/
noncomputable def extOf (P : Program) (K : Nat) (T : List (FuncId × XF)) : Ext := fun f args h => match T.lookup f with
  | some x => xrun P K x args h
  | none => none
theorem extOk_of {T : List (FuncId × XF)} (hT : ∀ f x, T.lookup f = some x → ∀ (args : Array Value) (w : World), (callFunc f args).run P w = ((x.row args).run P w).andThen fun v w' => .ok (.value v) w') : ExtOk P W K (extOf P K T) := by
  intro f args h v h' e _ J φ w args' R ha
  unfold extOf at e
  split at e
  · rename_i x hx
    obtain ⟨ψ, w', v', k1, k2, k3, k4⟩ := xrun_ok R e ha
    refine ⟨ψ, w', v', k1, ?_, k3, k4⟩
    rw [hT f x hx, k2]
    rfl
  · cases e
end
end Go.Ab
namespace Go.Ab
open Go.RowKit Go.Extern
set_option linter.unusedVariables false
set_option linter.unusedSectionVars false

/-- How many cells a block has. -/
def gsize (w : World) (b : Nat) : Nat :=
  match w.heap[b]? with
  | some (.cells C _ _) => C.size
  | _ => 0
def map0 (W : World) (K : Nat) : Map := fun B => if B < K then some ⟨B, 0, 0, gsize W B, false⟩ else none
/-- The memory in which a law begins: of some package-level variables' blocks what they hold is told. -/
def heap0 (K : Nat) : List (Nat × List Value) → AHeap
  | [] => ⟨PT.nil, K, K⟩
  | g :: r => { heap0 K r with m := (heap0 K r).m.set g.1 (.cells (PT.ofList g.2) g.2.length 0) }
theorem heap0_next (K : Nat) : ∀ gl, (heap0 K gl).next = K ∧ (heap0 K gl).ro = K
  | [] => ⟨rfl, rfl⟩
  | g :: r => heap0_next K r
theorem heap0_get (K : Nat) : ∀ gl B o, (heap0 K gl).m.get B = some o → ∃ l, (B, l) ∈ gl ∧ o = .cells (PT.ofList l) l.length 0
  | [], B, o, h => by simp [heap0] at h
  | g :: r, B, o, h => by
    simp only [heap0] at h
    rw [PT.get_set] at h
    split at h
    · rename_i e
      subst e
      cases h
      exact ⟨g.2, List.mem_cons_self .., rfl⟩
    · obtain ⟨l, h1, h2⟩ := heap0_get K r B o h
      exact ⟨l, List.mem_cons_of_mem _ h1, h2⟩

/-- What is told of the variables is so. -/
def Told (W : World) (K : Nat) (gl : List (Nat × List Value)) : Prop :=
  ∀ g l, (g, l) ∈ gl → g < K ∧ l.all (kok K) = true ∧ (∃ C E f, W.heap[g]? = some (.cells C E f)) ∧ ∀ i v, l[i]? = some v → W.cell? ⟨g, i, none⟩ = some v

variable [Sg]
theorem rel0 {P : Program} {W : World} {K : Nat} {gl : List (Nat × List Value)} (ht : Told W K gl) : Rel P W K (fun _ => none) (map0 W K) (heap0 K gl) W := by
  have inv : ∀ B x, map0 W K B = some x → B < K ∧ x = ⟨B, 0, 0, gsize W B, false⟩ := by
    intro B x h
    unfold map0 at h
    split at h
    · rename_i hlt; cases h; exact ⟨hlt, rfl⟩
    · cases h
  have self : ∀ B, B < K → map0 W K B = some ⟨B, 0, 0, gsize W B, false⟩ := fun B hB => by unfold map0; rw [if_pos hB]
  -- the relation without its memory, in which values stand
  have R0 : Rel P W K (fun _ => none) (map0 W K) (heap0 K []) W := by
    refine ⟨Below.refl _ _, fun B o h => by simp [heap0] at h, fun B x h => (inv B x h).1, fun B C x y o p h => by simp [heap0] at h, fun B x h hro => absurd (inv B x h).1 (Nat.not_lt.2 hro),
      fun B hB => ⟨_, _, self B hB⟩, Nat.le_refl _, fun b O h => (nomatch h), fun B x c n E h hg => by rw [(inv B x h).2] at hg; cases hg⟩
  obtain ⟨hn, hr⟩ := heap0_next K gl
  refine ⟨Below.refl _ _, ?_, fun B x h => by rw [hn]; exact (inv B x h).1, ?_, fun B x h hro => absurd (inv B x h).1 (Nat.not_lt.2 (hr ▸ hro)),
      fun B hB => ⟨_, _, self B hB⟩, by rw [hn, hr]; exact Nat.le_refl _, fun b O h => (nomatch h), fun B x c n E h hg => by rw [(inv B x h).2] at hg; cases hg⟩
  · intro B o h
    obtain ⟨l, hl, rfl⟩ := heap0_get K gl B o h
    obtain ⟨hlt, hk, ⟨C, E, f, hC⟩, hc⟩ := ht B l hl
    refine ⟨_, self B hlt, C, f, E, hC, fun hro => ?_, ?_, ?_, ?_⟩
    · rw [hr] at hro
      exact absurd hlt (Nat.not_lt.2 (by simpa using hro))
    · show C.size = gsize W B
      unfold gsize; rw [hC]
    · show 0 + l.length ≤ gsize W B
      unfold gsize; rw [hC]
      show 0 + l.length ≤ C.size
      rcases Nat.eq_zero_or_pos l.length with h0 | h0
      · omega
      · have hlast : l.length - 1 < l.length := by omega
        have h1 := hc (l.length - 1) l[l.length - 1] (List.getElem?_eq_getElem hlast)
        rw [cell_of hC] at h1
        rcases Nat.lt_or_ge (l.length - 1) C.size with h2 | h2
        · omega
        · rw [Array.getElem?_eq_none h2] at h1; cases h1
    · intro i v hi hv
      rw [PT.get_ofList] at hv
      have h1 := hc i v hv
      rw [cell_of hC] at h1
      refine ⟨v, by rw [Nat.zero_add]; exact h1, ?_⟩
      exact kok_VR R0 (List.all_eq_true.1 hk v (List.mem_of_getElem? hv))
  · intro B C x y o p hB hC _ _ e1 e2 e3
    rw [(inv B x e1).2, (inv C y e2).2] at e3
    exact e3

/-- What the evaluator finds, the law does. -/
theorem law_true {P : Program} {W : World} {K : Nat} {gl : List (Nat × List Value)} (ht : Told W K gl) {call : ACall} (hc : CallGood P W K call) {f : FuncId} {args args' : List Value} {h' : AHeap}
    (he : call f args (heap0 K gl) = some (.bool true, h')) (ha : VRs (map0 W K) args args') : Calls P f args'.toArray W fun en w' => en = .returned (.bool true) ∧ Below W.heap.size W w' := by
  refine (hc f args (heap0 K gl) _ h' he _ _ _ _ (rel0 ht) ha).mono fun en w' h => ?_
  obtain ⟨ψ, r', _, h2, h3, h4⟩ := h
  rw [h3.flat_inv rfl] at h2
  exact ⟨h2, h4.below⟩

def isTrue (o : Option (Value × AHeap)) : Bool :=
  match o with
  | some (.bool true, _) => true
  | _ => false
theorem isTrue_some {o : Option (Value × AHeap)} (h : isTrue o = true) : ∃ h', o = some (.bool true, h') := by
  unfold isTrue at h
  split at h
  · exact ⟨_, rfl⟩
  · cases h

/-- A variable of one cell, told. -/
theorem Told.one {W : World} {K g : Nat} {v : Value} (hg : g < K) (hv : kok K v = true) (hc : W.cell? ⟨g, 0, none⟩ = some v) : Told W K [(g, [v])] := by
  intro g' l hm
  simp only [List.mem_singleton, Prod.mk.injEq] at hm
  obtain ⟨rfl, rfl⟩ := hm
  refine ⟨hg, by simpa using hv, ?_, ?_⟩
  · unfold World.cell? at hc
    split at hc
    · exact ⟨_, _, _, ‹_›⟩
    all_goals first | (cases hc; done) | (simp at hc; done)
  · intro i v' hi
    cases i with
    | zero => simp only [List.getElem?_cons_zero, Option.some.injEq] at hi; subst hi; exact hc
    | succ i => simp at hi
theorem Told.append {W : World} {K : Nat} {a b : List (Nat × List Value)} (ha : Told W K a) (hb : Told W K b) : Told W K (a ++ b) := fun g l h => by
  rcases List.mem_append.1 h with h | h
  · exact ha g l h
  · exact hb g l h

/-! ### The program's facts, as closed tests -/
def codesB (P : Program) (ok : FuncId → Bool) : Bool := (List.range P.funcs.size).all fun f => match P.funcs[f]? with
  | some fn => match fn.body with
    | some c => !(ok f) || codeOk fn.ntmps c
    | none => true
  | none => true
theorem fnsOk_of {P : Program} {ok : FuncId → Bool} (h : codesB P ok = true) : FnsOk P ok := by
  intro f fn c hok hf hb
  have hlt : f < P.funcs.size := by
    rcases Nat.lt_or_ge f P.funcs.size with h | h
    · exact h
    · rw [Array.getElem?_eq_none h] at hf; cases hf
  have := List.all_eq_true.1 h f (List.mem_range.2 hlt)
  simp only [hf, hb, hok, Bool.not_true, Bool.false_or] at this
  exact this
def namesB (P : Program) : Bool := P.funcs.toList.all fun fn => fn.body.isNone || fn.name != "runtime.NumGoroutine"
theorem namesOk_of {P : Program} (h : namesB P = true) : NamesOk P := by
  intro f fn hf hb
  have := List.all_eq_true.1 h fn (Array.mem_toList_iff.2 (Array.mem_of_getElem? hf))
  simp only [Bool.or_eq_true, bne_iff_ne, ne_eq] at this
  rcases this with h | h
  · cases hbody : fn.body <;> simp [hbody] at hb h
  · exact h

end Go.Ab
namespace Go.Ab
open Go.RowKit
set_option linter.unusedVariables false
set_option linter.unusedSectionVars false
variable [Sg]

section
variable {P : Program} {W : World} {K : Nat} {J : Nat → Option Obj} {φ : Map} {h : AHeap} {w : World}

theorem Rel.obj_lt (R : Rel P W K J φ h w) {B : Nat} {o : AObj} (hB : h.m.get B = some o) (hl : o.live = true) : ∃ x, φ B = some x ∧ x.b < w.heap.size := by
  obtain ⟨x, hx, _⟩ := R.obj B o hB
  exact ⟨x, hx, R.live_lt hB hl hx⟩

theorem ObjR.later {φ : Map} {x : At} {w w' : World} {own : Bool} {o : AObj} (r : ObjR φ x w own o) (h : o.live = true → w'.heap[x.b]? = w.heap[x.b]?) : ObjR φ x w' own o := by
  cases o with
  | dead => trivial
  | map es clock => obtain ⟨es', k1, k2⟩ := r; exact ⟨es', by rw [h rfl]; exact k1, k2⟩
  | cells c n e => obtain ⟨C, f, E, k1, k⟩ := r; exact ⟨C, f, E, by rw [h rfl]; exact k1, k⟩

theorem ObjR.mono {φ ψ : Map} (hle : φ.le ψ) {x : At} {w : World} {own : Bool} {o : AObj} (r : ObjR φ x w own o) : ObjR ψ x w own o := by
  cases o with
  | dead => trivial
  | map es clock => obtain ⟨es', k1, k2⟩ := r; exact ⟨es', k1, k2.mono hle⟩
  | cells c n e =>
    obtain ⟨C, f, E, k1, k0, k2, k3, k4⟩ := r
    exact ⟨C, f, E, k1, k0, k2, k3, fun i v hi hv => by obtain ⟨v', h5, h6⟩ := k4 i v hi hv; exact ⟨v', h5, h6.mono hle⟩⟩
theorem ObjR.own {φ : Map} {x : At} {w : World} {own : Bool} {c : PT Value} {n : Nat} {e : TypeId} (r : ObjR φ x w true (.cells c n e)) : ObjR φ x w own (.cells c n e) := by
  obtain ⟨C, f, E, k1, k0, k⟩ := r
  exact ⟨C, f, E, k1, fun _ => k0 rfl, k⟩
theorem Below.wsize {W w : World} (h : Below W.heap.size W w) : W.heap.size ≤ w.heap.size := h.size

/-- What was there stays, whatever a call made besides. -/
theorem Rel.later (R : Rel P W K J φ h w) {w' : World} (b : Below w.heap.size w w') : Rel P W K J φ h w' := by
  have hb : Below W.heap.size W w' := R.below.trans (b.mono R.below.size)
  refine ⟨hb, fun B o e => ?_, R.dom, R.inj, R.old, R.self, R.ro, fun k O hk => ?_, R.es⟩
  · obtain ⟨x, hx, ho⟩ := R.obj B o e
    exact ⟨x, hx, ho.later fun hl => b.block _ (R.live_lt e hl hx)⟩
  · obtain ⟨h1, h2⟩ := R.junk k O hk
    refine ⟨?_, h2⟩
    have : k < w.heap.size := by
      rcases Nat.lt_or_ge k w.heap.size with h | h
      · exact h
      · rw [Array.getElem?_eq_none h] at h1; cases h1
    rw [b.block k this]; exact h1

/-- A law that holds wherever it is asked. -/
def Always (P : Program) (K : Nat) (gl : List (Nat × List Value)) (f : FuncId) (args' : List Value) (r' : Value) : Prop := ∀ w : World, Told w K gl → Calls P f args'.toArray w fun en w' => en = .returned r' ∧ Below w.heap.size w w'
theorem Told.later {W w : World} {gl : List (Nat × List Value)} (t : Told W K gl) (b : Below W.heap.size W w) : Told w K gl := by
  intro g l hm
  obtain ⟨h1, h2, ⟨C, E, f, h3⟩, h4⟩ := t g l hm
  have hg : g < W.heap.size := by
    rcases Nat.lt_or_ge g W.heap.size with h | h
    · exact h
    · rw [Array.getElem?_eq_none h] at h3; cases h3
  exact ⟨h1, h2, ⟨C, E, f, by rw [b.block g hg]; exact h3⟩, fun i v hv => by rw [b.cell (p := ⟨g, i, none⟩) hg]; exact h4 i v hv⟩

theorem Always.orc {gl : List (Nat × List Value)} {f : FuncId} {args' : List Value} {r r' : Value} (h : Always P K gl f args' r') (hT : Told W K gl) {hh : AHeap} (R : Rel P W K J φ hh w) (hr : VR φ r r') :
    Calls P f args'.toArray w fun en w' => ∃ ψ v, φ.le ψ ∧ en = .returned v ∧ VR ψ r v ∧ Rel P W K J ψ hh w' := by
  refine (h w (hT.later R.below)).mono fun en w' ⟨h1, h2⟩ => ⟨φ, r', φ.le_refl, h1, hr, R.later h2⟩

/-! ### A call done once for all -/
/-- A value that says the same wherever the own blocks lie. -/
def plainV (K : Nat) (v : Value) : Bool := isSy v || kok K v
theorem plainV_VR {v v' : Value} {φ ψ : Map} (hv : plainV K v = true) (R : Rel P W K J φ h w) (self : ∀ B, B < K → ∃ cs es, ψ B = some ⟨B, 0, es, cs, false⟩) (r : VR φ v v') : VR ψ v v' := by
  simp only [plainV, Bool.or_eq_true] at hv
  rcases hv with hv | hv
  · exact .of_sy (r.sy (isSy_or hv))
  · have := kok_eq R hv r
    subst this
    exact kok_VR' self hv

def tops (K : Nat) : Nat → Value → List Nat
  | _, .pointer (some a) | _, .slice (some a) _ _ => if K ≤ a.block then [a.block] else []
  | n + 1, .iface _ v => tops K n v
  | n + 1, .agg c => c.toList.flatMap (tops K n)
  | n + 1, .tuple c => c.toList.flatMap (tops K n)
  | _, _ => []
def shV (K δ : Nat) : Nat → Value → Option Value
  | _, .pointer (some a) => some (.pointer (some (if a.block < K then a else ⟨a.block + δ, a.off, a.spot⟩)))
  | _, .slice (some a) l c => some (.slice (some (if a.block < K then a else ⟨a.block + δ, a.off, a.spot⟩)) l c)
  | n + 1, .iface t v => match shV K δ n v with
    | some u => some (.iface t u)
    | none => none
  | n + 1, .agg c => match c.toList.mapM (shV K δ n) with
    | some l => some (.agg l.toArray)
    | none => none
  | n + 1, .tuple c => match c.toList.mapM (shV K δ n) with
    | some l => some (.tuple l.toArray)
    | none => none
  | _, v => if isSy v = true then some v else none
theorem shV_VR {K δ : Nat} {φ ψ : Map} (hlt : ∀ B x, B < K → φ B = some x → ∃ y, ψ B = some y ∧ y.b = x.b ∧ y.d = x.d ∧ x.grow = false) (hge : ∀ B x, K ≤ B → φ B = some x → ψ (B + δ) = some x) :
    ∀ (n : Nat) (v v' u : Value), VR φ v v' → shV K δ n v = some u → VR ψ u v' := by
  have ptr : ∀ (a : Addr) (v' u : Value), VR φ (.pointer (some a)) v' → some (Value.pointer (some (if a.block < K then a else ⟨a.block + δ, a.off, a.spot⟩))) = some u → VR ψ u v' := by
    intro a v' u r e
    cases e
    obtain ⟨x, hx, hs, rfl⟩ := r.ptr_inv
    by_cases hB : a.block < K
    · obtain ⟨y, hy, h1, h2, _⟩ := hlt _ _ hB hx
      rw [if_pos hB, ← h1, ← h2]
      exact .ptr hy hs
    · rw [if_neg hB]
      exact VR.ptr (a := ⟨a.block + δ, a.off, a.spot⟩) (hge _ _ (Nat.le_of_not_lt hB) hx) hs
  have slc : ∀ (a : Addr) (l c : Nat) (v' u : Value), VR φ (.slice (some a) l c) v' → some (Value.slice (some (if a.block < K then a else ⟨a.block + δ, a.off, a.spot⟩)) l c) = some u → VR ψ u v' := by
    intro a l c v' u r e
    cases e
    obtain ⟨x, cap', o, hx, hs, h3, h4, h5, h6, rfl⟩ := r.slice_inv
    by_cases hB : a.block < K
    · obtain ⟨y, hy, h1, h2, hg⟩ := hlt _ _ hB hx
      rw [if_pos hB, ← h1]
      refine .slice hy hs h3 h4 (.inl ?_) (by rw [h2]; exact h6)
      rcases h5 with h5 | h5
      · exact h5
      · rw [hg] at h5; cases h5.1
    · rw [if_neg hB]
      exact VR.slice (a := ⟨a.block + δ, a.off, a.spot⟩) (hge _ _ (Nat.le_of_not_lt hB) hx) hs h3 h4 h5 h6
  have rest : ∀ (v v' u : Value), VR φ v v' → (if isSy v = true then some v else none) = some u → VR ψ u v' := by
    intro v v' u r e
    split at e
    · rename_i hs; cases e; exact .of_sy (r.sy (isSy_or hs))
    · cases e
  intro n
  induction n with
  | zero =>
    intro v v' u r e
    cases v with
    | pointer o => cases o with | none => exact rest _ _ _ r e | some a => exact ptr a v' u r e
    | slice o l c => cases o with | none => exact rest _ _ _ r e | some a => exact slc a l c v' u r e
    | _ => exact rest _ _ _ r e
  | succ n ih =>
    have arr : ∀ (l l' m : List Value), VRs φ l l' → l.mapM (shV K δ n) = some m → VRs ψ m l' := by
      intro l l' m r
      induction r generalizing m with
      | nil => intro e; simp at e; subst e; exact .nil
      | cons h1 _ ih2 =>
        intro e
        simp only [List.mapM_cons, Option.bind_eq_bind, Option.pure_def, Option.bind_eq_some_iff, Option.some.injEq] at e
        obtain ⟨u, hu, m', hm, rfl⟩ := e
        exact .cons (ih _ _ _ h1 hu) (ih2 _ hm)
    intro v v' u r e
    cases v with
    | pointer o => cases o with | none => exact rest _ _ _ r e | some a => exact ptr a v' u r e
    | slice o l c => cases o with | none => exact rest _ _ _ r e | some a => exact slc a l c v' u r e
    | iface t v =>
      obtain ⟨w, rfl, hw⟩ := r.iface_inv
      simp only [shV] at e
      split at e
      · rename_i u' hu; cases e; exact .iface (ih _ _ _ hw hu)
      · cases e
    | agg c =>
      obtain ⟨c', rfl, hc⟩ := r.agg_inv
      simp only [shV] at e
      split at e
      · rename_i m hm; cases e; exact .of_aggs (by simpa using arr _ _ _ hc hm)
      · cases e
    | tuple c =>
      obtain ⟨c', rfl, hc⟩ := r.tuple_inv
      simp only [shV] at e
      split at e
      · rename_i m hm; cases e; exact .of_tuples (by simpa using arr _ _ _ hc hm)
      · cases e
    | _ => exact rest _ _ _ r e

/-- The blocks that are told, at their new places. -/
def graft (K δ : Nat) (h1 : AHeap) : List Nat → PT AObj → PT AObj
  | [], m => m
  | B :: r, m => match h1.m.get B with
    | some (.cells c n e) => match c.row 0 n with
      | some l => if K ≤ B ∧ l.all (plainV K) = true then graft K δ h1 r (m.set (B + δ) (.cells c n e)) else graft K δ h1 r m
      | none => graft K δ h1 r m
    | _ => graft K δ h1 r m
theorem graft_get {K δ : Nat} {h1 : AHeap} : ∀ (l : List Nat) (m : PT AObj) (D : Nat) (o : AObj), (graft K δ h1 l m).get D = some o → m.get D = some o ∨ ∃ B c n e l, D = B + δ ∧ K ≤ B ∧ o = .cells c n e ∧ h1.m.get B = some (.cells c n e) ∧ c.row 0 n = some l ∧ l.all (plainV K) = true := by
  intro l
  induction l with
  | nil => intro m D o h; exact .inl h
  | cons B r ih =>
    intro m D o h
    simp only [graft] at h
    split at h
    · rename_i c n e hB
      split at h
      · rename_i l hl
        split at h
        · rename_i hc
          rcases ih _ _ _ h with h2 | h2
          · rw [PT.get_set] at h2
            split at h2
            · rename_i hD
              cases h2
              exact .inr ⟨B, c, n, e, l, hD.symm, hc.1, rfl, hB, hl, hc.2⟩
            · exact .inl h2
          · exact .inr h2
        · exact ih _ _ _ h
      · exact ih _ _ _ h
    · exact ih _ _ _ h
/-- What a call that was done once comes to now. -/
def memo (K : Nat) (done : Option (Value × AHeap)) (h : AHeap) : Option (Value × AHeap) :=
  match done with
  | none => none
  | some (r, h1) => if K ≤ h1.next ∧ K ≤ h.next ∧ h1.ro = K then match shV K (h.next - K) 4 r with
      | some u => some (u, { h with m := graft K (h.next - K) h1 (tops K 4 r) h.m, next := h.next + (h1.next - K) })
      | none => none
    else none

theorem memo_ok {call : ACall} (hc : CallGood P w K call) {f : FuncId} {args args' : List Value} (hp : args.all (plainV K) = true) {r : Value} {h' : AHeap}
    (he : memo K (call f args (heap0 K [])) h = some (r, h')) (R : Rel P W K J φ h w) (ha : VRs φ args args') :
    Calls P f args'.toArray w fun en w' => ∃ ψ v, φ.le ψ ∧ en = .returned v ∧ VR ψ r v ∧ Rel P W K J ψ h' w' := by
  unfold memo at he
  split at he
  · cases he
  rename_i r1 h1 hdone
  split at he
  case isFalse => cases he
  rename_i hK
  split at he
  case h_2 => cases he
  rename_i u hu
  cases he
  have R0 : Rel P w K (fun _ => none) (map0 w K) (heap0 K []) w := rel0 (fun g l hm => by cases hm)
  have ha0 : VRs (map0 w K) args args' := by
    clear hdone
    induction ha with
    | nil => exact .nil
    | cons h1 _ ih =>
      simp only [List.all_cons, Bool.and_eq_true] at hp
      exact .cons (plainV_VR hp.1 R R0.self h1) (ih hp.2)
  refine (hc f args (heap0 K []) _ _ hdone _ _ _ _ R0 ha0).mono fun en w' hh => ?_
  obtain ⟨χ, v, hχ, rfl, hv, R1⟩ := hh
  have b := R1.below
  let δ := h.next - K
  let ψ : Map := fun B => if B < h.next then φ B else χ (B - δ)
  have hle : φ.le ψ := fun B x e => by
    have := R.dom B x e
    show (if B < h.next then φ B else χ (B - δ)) = some x
    rw [if_pos this]; exact e
  have hge : ∀ B x, K ≤ B → χ B = some x → ψ (B + δ) = some x := by
    intro B x hB e
    show (if B + δ < h.next then φ (B + δ) else χ (B + δ - δ)) = some x
    rw [if_neg (by omega), Nat.add_sub_cancel]; exact e
  have hχK : ∀ B x, B < K → χ B = some x → x = ⟨B, 0, 0, gsize w B, false⟩ := by
    intro B x hB e
    have : map0 w K B = some ⟨B, 0, 0, gsize w B, false⟩ := by unfold map0; rw [if_pos hB]
    rw [hχ _ _ this] at e; cases e; rfl
  have hlt : ∀ B x, B < K → χ B = some x → ∃ y, ψ B = some y ∧ y.b = x.b ∧ y.d = x.d ∧ x.grow = false := by
    intro B x hB e
    obtain ⟨cs, es, hs⟩ := R.self B hB
    rw [hχK B x hB e]
    exact ⟨_, hle _ _ hs, rfl, rfl, rfl⟩
  have inv : ∀ D x, ψ D = some x → (D < h.next ∧ φ D = some x) ∨ (h.next ≤ D ∧ K ≤ D - δ ∧ χ (D - δ) = some x) := by
    intro D x e
    have e : (if D < h.next then φ D else χ (D - δ)) = some x := e
    split at e
    · exact .inl ⟨‹_›, e⟩
    · exact .inr ⟨by omega, by omega, e⟩
  have wsz : W.heap.size ≤ w.heap.size := R.below.size
  have newb : ∀ B x, K ≤ B → χ B = some x → w.heap.size ≤ x.b := fun B x hB e => R1.old B x e (by rw [hK.2.2]; exact hB)
  have rok : h.ro ≤ h.next := R.ro
  have selfψ : ∀ B, B < K → ∃ cs es, ψ B = some ⟨B, 0, es, cs, false⟩ := fun B hB => by
    obtain ⟨cs, es, hs⟩ := R.self B hB
    exact ⟨cs, es, hle _ _ hs⟩
  refine ⟨ψ, v, hle, rfl, shV_VR hlt hge 4 _ _ _ hv hu, ?_⟩
  have getc : ∀ D o, (graft K δ h1 (tops K 4 r1) h.m).get D = some o → (h.m.get D = some o ∧ ∃ x, φ D = some x ∧ ψ D = some x) ∨ (∃ x c n e, ψ D = some x ∧ (K ≤ D - δ ∧ δ ≤ D) ∧ χ (D - δ) = some x ∧ o = .cells c n e ∧ ObjR ψ x w' true (.cells c n e) ∧ h1.m.get (D - δ) = some o) := by
    intro D o hD
    rcases graft_get _ _ _ _ hD with h2 | ⟨B, c, n, e, l, rfl, hB, rfl, hm, hl, hall⟩
    · obtain ⟨x, hx, _⟩ := R.obj D o h2
      exact .inl ⟨h2, x, hx, hle _ _ hx⟩
    · obtain ⟨x, hx, C, f, E, k1, k0, k2, k3, k4⟩ := R1.obj B _ hm
      refine .inr ⟨x, c, n, e, hge _ _ hB hx, ⟨by omega, by omega⟩, by rw [Nat.add_sub_cancel]; exact hx, rfl, ?_, by rw [Nat.add_sub_cancel]; exact hm⟩
      refine ⟨C, f, E, k1, fun _ => k0 (by rw [hK.2.2]; exact decide_eq_true hB), k2, k3, fun i v hi hv => ?_⟩
      obtain ⟨v', k5, k6⟩ := k4 i v hi hv
      obtain ⟨hlen, hg⟩ := PT.row_spec _ _ _ _ hl
      have hlv : l[i]? = some v := by rw [← hg i hi, Nat.zero_add]; exact hv
      exact ⟨v', k5, plainV_VR (List.all_eq_true.1 hall v (List.mem_of_getElem? hlv)) R1 selfψ k6⟩
  have oldlt : ∀ D o x, h.m.get D = some o → o.live = true → φ D = some x → x.b < w.heap.size := fun D o x h1 h2 h3 => R.live_lt h1 h2 h3
  refine ⟨R.below.trans (b.mono wsz), ?_, ?_, ?_, ?_, selfψ, ?_, ?_, ?_⟩
  · intro D o hD
    rcases getc D o hD with ⟨h2, x, hx, hx'⟩ | ⟨x, c, n, e, hx, ⟨hB, _⟩, _, rfl, ho, _⟩
    · obtain ⟨y, hy, ho⟩ := R.obj D o h2
      rw [hx] at hy; cases hy
      exact ⟨x, hx', (ho.later fun hl => b.block _ (oldlt D o x h2 hl hx)).mono hle⟩
    · exact ⟨x, hx, ho.own⟩
  · intro D x e
    show D < h.next + (h1.next - K)
    rcases inv D x e with ⟨h2, _⟩ | ⟨h2, h3, h4⟩
    · omega
    · have := R1.dom _ _ h4
      omega
  · intro D E x y o p hD hE l1 l2 e1 e2 e3
    rcases getc D o hD with ⟨h2, x', hx, hx'⟩ | ⟨x', c, n, e, hx, ⟨hB, hBd⟩, hχx, rfl, ho, hm⟩
    · rw [e1] at hx'; cases hx'
      rcases getc E p hE with ⟨h4, y', hy, hy'⟩ | ⟨y', c2, n2, e4, hy, ⟨hB2, hBd2⟩, hχy, rfl, ho2, hm2⟩
      · rw [e2] at hy'; cases hy'
        exact R.inj D E x y o p h2 h4 l1 l2 hx hy e3
      · rw [e2] at hy; cases hy
        have k1 := oldlt D o x h2 l1 hx
        have k2 := newb _ _ hB2 hχy
        omega
    · rw [e1] at hx; cases hx
      rcases getc E p hE with ⟨h4, y', hy, hy'⟩ | ⟨y', c2, n2, e4, hy, ⟨hB2, hBd2⟩, hχy, rfl, ho2, hm2⟩
      · rw [e2] at hy'; cases hy'
        have k1 := oldlt E p y h4 l2 hy
        have k2 := newb _ _ hB hχx
        omega
      · rw [e2] at hy; cases hy
        have := R1.inj _ _ x y _ _ hm hm2 rfl rfl hχx hχy e3
        omega
  · intro D x e hro
    rcases inv D x e with ⟨_, h3⟩ | ⟨_, h3, h4⟩
    · exact R.old D x h3 hro
    · exact Nat.le_trans wsz (newb _ _ h3 h4)
  · show h.ro ≤ h.next + (h1.next - K)
    omega
  · intro k O hk
    obtain ⟨g1, g2⟩ := R.junk k O hk
    have hkl : k < w.heap.size := by
      rcases Nat.lt_or_ge k w.heap.size with h | h
      · exact h
      · rw [Array.getElem?_eq_none h] at g1; cases g1
    refine ⟨by rw [b.block k hkl]; exact g1, fun D x e hroD => ?_⟩
    rcases inv D x e with ⟨_, h3⟩ | ⟨h2, h3, h4⟩
    · exact g2 D x h3 hroD
    · have := newb _ _ h3 h4
      omega
  · intro D x c n E e hg hD
    rcases getc D _ hD with ⟨h2, y, hy, hy'⟩ | ⟨y, c2, n2, e2, hy, ⟨hB, _⟩, hχx, ho, _, hm⟩
    · rw [e] at hy'; cases hy'
      exact R.es D x c n E hy hg h2
    · rw [e] at hy; cases hy
      exact R1.es _ x c n E hχx hg hm

end
end Go.Ab
namespace Go.Ab
open Go.RowKit
set_option linter.unusedVariables false
set_option linter.unusedSectionVars false

/-- No symbols at all. -/
@[reducible] def noSg : Sg where
  σ := fun _ => none
  sc := fun _ _ h => by cases h
  bin := fun _ _ _ _ _ => none
  ok := by intro P w op t x y a b v a' b' h; cases h
  eqs := fun _ _ _ _ => false
  eqs_ok := by intro P w d t a b a' b' h; cases h
  cnv := fun _ _ _ _ => none
  cnv_ok := by intro P w s d a v a' h; cases h

section
variable [Sg] {P : Program} {W : World} {K : Nat}

abbrev Pures := List (FuncId × (List Value → Option Value))
abbrev Memos := List (FuncId × List Value)
def orcOf (K : Nat) (call : ACall) (ps : Pures) (ms : Memos) : Orc := fun f =>
  if (ps.any fun p => p.1 == f) || (ms.any fun m => m.1 == f) then some fun args h =>
    match ps.lookup f with
    | some p => match p args with
      | some r => some (r, h)
      | none => call f args h
    | none => match ms.find? fun m => m.1 == f && veqs args m.2 with
      | some m => memo K (call f m.2 (heap0 K [])) h
      | none => call f args h
  else none
/-- A table of outcomes tells the truth. -/
def PureOk (P : Program) (K : Nat) (gl : List (Nat × List Value)) (f : FuncId) (p : List Value → Option Value) : Prop :=
  ∀ args r, p args = some r → ∀ φ args', VRs φ args args' → ∃ r', Always P K gl f args' r' ∧ ∀ ψ, VR ψ r r'
theorem orcOk_of {gl : List (Nat × List Value)} (hT : Told W K gl) {call : ACall} (hc : ∀ W, Told W K gl → CallGood P W K call) {ps : Pures} {ms : Memos} (hp : ∀ f p, ps.lookup f = some p → PureOk P K gl f p) (hm : ms.all (fun m => m.2.all (plainV K)) = true) : OrcOk P W K (orcOf K call ps ms) := by
  intro f g hg args h r h' he J φ w args' R ha
  unfold orcOf at hg
  split at hg
  case isFalse => cases hg
  cases hg
  replace he : (match ps.lookup f with
    | some p => match p args with
      | some r => some (r, h)
      | none => call f args h
    | none => match ms.find? fun m => m.1 == f && veqs args m.2 with
      | some m => memo K (call f m.2 (heap0 K [])) h
      | none => call f args h) = some (r, h') := he
  split at he
  · rename_i p hl
    split at he
    · rename_i r0 hr
      cases he
      obtain ⟨r', h1, h2⟩ := hp f p hl args _ hr φ args' ha
      exact h1.orc hT R (h2 φ)
    · exact hc W hT f args h r h' he J φ w args' R ha
  · split at he
    · rename_i m hf
      have h1 := List.find?_some hf
      have h2 := List.mem_of_find?_eq_some hf
      simp only [Bool.and_eq_true] at h1
      have h3 := veqs_eq _ _ h1.2
      subst h3
      exact memo_ok (hc w (hT.later R.below)) (List.all_eq_true.1 hm m h2) he R ha
    · exact hc W hT f args h r h' he J φ w args' R ha

/-- From an evaluation to a law that holds wherever it is asked. -/
theorem always_of {gl : List (Nat × List Value)} {call : ACall} (hc : ∀ W, Told W K gl → CallGood P W K call) {f : FuncId} {args args' : List Value} {r r' : Value} {h' : AHeap} (he : call f args (heap0 K gl) = some (r, h'))
    (ha : ∀ φ, (∀ B, B < K → ∃ cs es, φ B = some ⟨B, 0, es, cs, false⟩) → VRs φ args args') (hr : ∀ φ v, (∀ B, B < K → ∃ cs es, φ B = some ⟨B, 0, es, cs, false⟩) → VR φ r v → v = r') : Always P K gl f args' r' := by
  intro w ht
  have R0 : Rel P w K (fun _ => none) (map0 w K) (heap0 K gl) w := rel0 ht
  refine (hc w ht f args (heap0 K gl) _ _ he _ _ _ _ R0 (ha _ R0.self)).mono fun en w' h => ?_
  obtain ⟨ψ, v, _, h2, h3, h4⟩ := h
  exact ⟨by rw [h2, hr ψ v h4.self h3], h4.below⟩
theorem kok_eq' {φ : Map} (self : ∀ B, B < K → ∃ cs es, φ B = some ⟨B, 0, es, cs, false⟩) {v v' : Value} (hv : kok K v = true) (r : VR φ v v') : v' = v := by
  simp only [kok, Bool.and_eq_true] at hv
  exact kclN_eq' self 6 v v' hv.1 r
def gives (o : Option (Value × AHeap)) (r : Value) : Bool :=
  match o with
  | some (v, _) => veq v r
  | none => false
/-- .. where the outcome is known. -/
theorem always_to {gl : List (Nat × List Value)} {call : ACall} (hc : ∀ W, Told W K gl → CallGood P W K call) {f : FuncId} {args args' : List Value} {r : Value} (hr : kok K r = true) (ha : ∀ φ, VRs φ args args')
    (he : gives (call f args (heap0 K gl)) r = true) : Always P K gl f args' r := by
  unfold gives at he
  split at he
  · rename_i v h' hcall
    have := veq_eq _ _ he
    subst this
    exact always_of hc hcall (fun φ self => ha φ) (fun φ v' self rr => kok_eq' self hr rr)
  · cases he
/-- .. where all is known. -/
theorem always_known {gl : List (Nat × List Value)} {call : ACall} (hc : ∀ W, Told W K gl → CallGood P W K call) {f : FuncId} {args : List Value} {r : Value} (ha : args.all (kok K) = true) (hr : kok K r = true)
    (he : gives (call f args (heap0 K gl)) r = true) : Always P K gl f args r := by
  unfold gives at he
  split at he
  · rename_i v h' hcall
    have := veq_eq _ _ he
    subst this
    refine always_of hc hcall (fun φ self => ?_) (fun φ v' self rr => kok_eq' self hr rr)
    clear hcall
    induction args with
    | nil => exact .nil
    | cons a l ih =>
      simp only [List.all_cons, Bool.and_eq_true] at ha
      exact .cons (kok_VR' self ha.1) (ih ha.2)
  · cases he
end
end Go.Ab
namespace Go.Ab
open Go.RowKit
set_option linter.unusedVariables false
set_option linter.unusedSectionVars false

def intOrStr : Value → Bool
  | .int _ _ | .string _ => true
  | _ => false
def Dist : Value → Value → Prop
  | .int k a, .int l b => k = l ∧ a ≠ b
  | .string a, .string b => a ≠ b
  | _, _ => False
/-- Does an operation on two symbols, or on one and a value, come to this? -/
def ExOk (σ : Nat → Option Value) (ex : BinOp → Value → Value → Option Value) : Prop :=
  ∀ (P : Program) (w : World) (op : BinOp) (t : TypeId) (a b v a' b' : Value), ex op a b = some v → Sy σ a a' → Sy σ b b' →
    ∃ v', (binOp op t a' b').run P w = .ok v' w ∧ Sy σ v v'
def symCmp (ne : Nat → Value → Bool) (a b : Value) : Option Bool :=
  match a, b with
  | .chan (some i), .chan (some j) => if i = j then some true else none
  | .chan (some i), x => if ne i x = true then some false else none
  | x, .chan (some i) => if ne i x = true then some false else none
  | _, _ => none
theorem Sy.chan {σ : Nat → Option Value} {i : Nat} {v' : Value} (h : Sy σ (.chan (some i)) v') : σ i = some v' := by
  rcases h with ⟨h, _⟩ | ⟨j, h, h2⟩
  · simp [noAddr] at h
  · cases h; exact h2
theorem Dist.inv {x v : Value} (h : Dist x v) : (∃ k a b, x = .int k a ∧ v = .int k b ∧ a ≠ b) ∨ ∃ a b, x = .string a ∧ v = .string b ∧ a ≠ b := by
  cases x <;> cases v <;> first | (exact h.elim) | (obtain ⟨rfl, h⟩ := h; exact .inl ⟨_, _, _, rfl, rfl, h⟩) | exact .inr ⟨_, _, rfl, rfl, h⟩
theorem eqb_str {a b : ByteArray} (h : a ≠ b) : (a.toList == b.toList) = false := by
  rw [beq_eq_false_iff_ne]
  intro e
  rw [ByteArray.toList_eq, ByteArray.toList_eq] at e
  exact h (ByteArray.ext (Array.toList_inj.mp e))
theorem symCmp_ok {σ : Nat → Option Value} {ne : Nat → Value → Bool} (hs : ∀ i v, σ i = some v → intOrStr v = true) (hn : ∀ i x v, ne i x = true → σ i = some v → Dist x v)
    {P : Program} (w : World) (t : TypeId) (x y : Operand) {a b a' b' : Value} {r : Bool} (h : symCmp ne a b = some r) (ha : Sy σ a a') (hb : Sy σ b b') :
    (do eqGuard .eql t x y a' b'; binOp .eql t a' b' : Sem Value).run P w = .ok (.bool r) w ∧ (do eqGuard .neq t x y a' b'; binOp .neq t a' b' : Sem Value).run P w = .ok (.bool (!r)) w := by
  have int : ∀ (k : IntKind) (m n : Int), (do eqGuard .eql t x y (.int k m) (.int k n); binOp .eql t (.int k m) (.int k n) : Sem Value).run P w = .ok (.bool (m == n)) w ∧
      (do eqGuard .neq t x y (.int k m) (.int k n); binOp .neq t (.int k m) (.int k n) : Sem Value).run P w = .ok (.bool (m != n)) w := fun k m n => by
    constructor <;> simp [eqGuard, binOp, Op.intCmp]
  have str : ∀ (m n : ByteArray), (do eqGuard .eql t x y (.string m) (.string n); binOp .eql t (.string m) (.string n) : Sem Value).run P w = .ok (.bool (m.toList == n.toList)) w ∧
      (do eqGuard .neq t x y (.string m) (.string n); binOp .neq t (.string m) (.string n) : Sem Value).run P w = .ok (.bool (!(m.toList == n.toList))) w := fun m n => by
    constructor
    · simp only [eqGuard, binOp_string_eql, Sem.run_bind]; rfl
    · simp only [eqGuard, binOp_string_neq, Sem.run_bind]; rfl
  have two : ∀ (i : Nat) (z v : Value), σ i = some v → ne i z = true → ∀ r' : Bool, r' = false → ((do eqGuard .eql t x y v z; binOp .eql t v z : Sem Value).run P w = .ok (.bool r') w ∧ (do eqGuard .neq t x y v z; binOp .neq t v z : Sem Value).run P w = .ok (.bool (!r')) w) ∧
      ((do eqGuard .eql t x y z v; binOp .eql t z v : Sem Value).run P w = .ok (.bool r') w ∧ (do eqGuard .neq t x y z v; binOp .neq t z v : Sem Value).run P w = .ok (.bool (!r')) w) := by
    intro i z v h1 h2 r' hr
    subst hr
    rcases (hn i z v h2 h1).inv with ⟨k, p, q, rfl, rfl, hpq⟩ | ⟨p, q, rfl, rfl, hpq⟩
    · have e1 : (q == p) = false := beq_eq_false_iff_ne.2 (Ne.symm hpq)
      have e2 : (p == q) = false := beq_eq_false_iff_ne.2 hpq
      obtain ⟨g1, g2⟩ := int k q p
      obtain ⟨g3, g4⟩ := int k p q
      rw [g1, g2, g3, g4]
      simp only [bne, e1, e2, Bool.not_false, and_self]
    · obtain ⟨g1, g2⟩ := str q p
      obtain ⟨g3, g4⟩ := str p q
      rw [g1, g2, g3, g4]
      simp only [eqb_str hpq, eqb_str (Ne.symm hpq), Bool.not_false, and_self]
  unfold symCmp at h
  split at h
  · rename_i i j
    split at h
    case isFalse => cases h
    rename_i hij
    subst hij
    cases h
    have h1 := ha.chan
    have h2 := hb.chan
    rw [h1] at h2; cases h2
    have := hs _ _ h1
    cases a' <;> first | (simp [intOrStr] at this; done) | skip
    · obtain ⟨g1, g2⟩ := int _ _ _
      rw [g1, g2]
      simp
    · obtain ⟨g1, g2⟩ := str _ _
      rw [g1, g2]
      simp
  · rename_i z i hz
    split at h
    case isFalse => cases h
    rename_i hne
    cases h
    have h1 := ha.chan
    rcases hb with ⟨_, rfl⟩ | ⟨j, rfl, _⟩
    · exact (two i _ _ h1 hne false rfl).1
    · exact absurd rfl (hz j)
  · rename_i z i hz
    split at h
    case isFalse => cases h
    rename_i hne
    cases h
    have h1 := hb.chan
    rcases ha with ⟨_, rfl⟩ | ⟨j, rfl, _⟩
    · exact (two i _ _ h1 hne false rfl).2
    · exact absurd rfl (hz j)
  · cases h

def symBin (ne : Nat → Value → Bool) (ex : BinOp → Value → Value → Option Value) (op : BinOp) (a b : Value) : Option Value :=
  match op with
  | .eql => match symCmp ne a b with
    | some r => some (.bool r)
    | none => none
  | .neq => match symCmp ne a b with
    | some r => some (.bool (!r))
    | none => none
  | op => ex op a b
def symEqs (isInt : Nat → Bool) (P : Program) (t : TypeId) (a b : Value) : Bool :=
  match P.underlying t with
  | some (.int _) => match a, b with
    | .chan (some i), .chan (some j) => decide (i = j) && isInt i
    | .int k m, .int l n => decide (k = l) && decide (m = n)
    | _, _ => false
  | _ => false

theorem run_und {P : Program} {t : TypeId} {d : TypeDesc} (w : World) (h : P.underlying t = some d) : (underlying t).run P w = .ok d w := by simp [underlying, h]
@[reducible] def symSg (σ : Nat → Option Value) (ne : Nat → Value → Bool) (isInt : Nat → Bool) (ex : BinOp → Value → Value → Option Value)
    (hs : ∀ i v, σ i = some v → intOrStr v = true) (hn : ∀ i x v, ne i x = true → σ i = some v → Dist x v) (hi : ∀ i v, isInt i = true → σ i = some v → ∃ k n, v = .int k n) (hx : ExOk σ ex)
    (cv : Program → TypeId → TypeId → Value → Option Value := fun _ _ _ _ => none) (hcv : ∀ (P : Program) (w : World) (s d : TypeId) (a v a' : Value), cv P s d a = some v → Sy σ a a' → ∃ v', (convert s d a').run P w = .ok v' w ∧ Sy σ v v' := by intro P w s d a v a' h; cases h) : Sg where
  σ := σ
  sc := fun i v h => by have := hs i v h; cases v <;> first | rfl | (simp [intOrStr] at this)
  bin := fun _ op _ a b => symBin ne ex op a b
  ok := by
    intro P w op t x y a b v a' b' h ha hb
    unfold symBin at h
    split at h
    · split at h
      · rename_i r hr
        cases h
        exact ⟨_, (symCmp_ok hs hn w t x y hr ha hb).1, .inl ⟨rfl, rfl⟩⟩
      · cases h
    · split at h
      · rename_i r hr
        cases h
        exact ⟨_, (symCmp_ok hs hn w t x y hr ha hb).2, .inl ⟨rfl, rfl⟩⟩
      · cases h
    · rename_i h1 h2
      obtain ⟨v', g1, g2⟩ := hx P w op t a b v a' b' h ha hb
      refine ⟨v', ?_, g2⟩
      have : eqGuard op t x y a' b' = pure () := by
        cases op <;> first | rfl | (exact absurd rfl h1) | (exact absurd rfl h2)
      rw [this, Sem.run_bind, Sem.run_pure, Result.andThen_ok, g1]
  cnv := cv
  cnv_ok := hcv
  eqs := symEqs isInt
  eqs_ok := by
    intro P w d t a b a' b' h ha hb
    unfold symEqs at h
    split at h
    case h_2 => cases h
    rename_i k hu
    split at h
    · rename_i i j
      simp only [Bool.and_eq_true, decide_eq_true_eq] at h
      obtain ⟨rfl, h⟩ := h
      have h1 := ha.chan
      have h2 := hb.chan
      rw [h1] at h2; cases h2
      obtain ⟨l, n, rfl⟩ := hi _ _ h h1
      simp only [Op.equalIn, Sem.run_bind, run_und w hu, Result.andThen_ok, if_true, Sem.run_pure, beq_self_eq_true]
    · rename_i l m l' n
      simp only [Bool.and_eq_true, decide_eq_true_eq] at h
      obtain ⟨rfl, rfl⟩ := h
      rcases ha with ⟨_, rfl⟩ | ⟨j, h, _⟩
      · rcases hb with ⟨_, rfl⟩ | ⟨j, h, _⟩
        · simp only [Op.equalIn, Sem.run_bind, run_und w hu, Result.andThen_ok, if_true, Sem.run_pure, beq_self_eq_true]
        · cases h
      · cases h
    · cases h
end Go.Ab
