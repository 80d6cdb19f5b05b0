/- The abstract evaluator: a region whose order is left open comes to the same in each order that its edges let. -/
import Derived.Test.YtcfmeiejfofgpaaGreatDoorAbL
namespace Go.Ab
open Go.RowKit
set_option linter.unusedVariables false
set_option linter.unusedSectionVars false

/-! ### What comes ahead of what -/
def isAnc (ops : Array Oper) (i j : Nat) : Bool := ((Region.before ops).getD i 0).testBit j

def Closed (ops : Array Oper) (S : Nat → Prop) : Prop := ∀ j oj, ops[j]? = some oj → S j → ∀ e ∈ oj.after, Region.binds .any e = true → S e.on

theorem before_size (ops : List Oper) : ∀ acc : Array Nat, (ops.foldl (init := acc) fun acc o =>
    acc.push (o.after.foldl (fun s e => if Region.binds .any e then s ||| 2 ^ e.on ||| acc.getD e.on 0 else s) 0)).size = acc.size + ops.length := by
  induction ops with
  | nil => intro acc; rfl
  | cons o r ih => intro acc; rw [List.foldl_cons, ih]; simp; omega

theorem bits_fold (acc : Array Nat) (j : Nat) : ∀ (l : List Edge) (s : Nat), (l.foldl (fun s e => if Region.binds .any e then s ||| 2 ^ e.on ||| acc.getD e.on 0 else s) s).testBit j = true →
    s.testBit j = true ∨ ∃ e ∈ l, Region.binds .any e = true ∧ (e.on = j ∨ (acc.getD e.on 0).testBit j = true) := by
  intro l
  induction l with
  | nil => intro s h; exact .inl h
  | cons e r ih =>
    intro s h
    rw [List.foldl_cons] at h
    rcases ih _ h with h1 | ⟨e', h1, h2⟩
    · split at h1
      · rename_i hb
        simp only [Nat.testBit_or, Bool.or_eq_true, Nat.testBit_two_pow, decide_eq_true_eq] at h1
        rcases h1 with (h1 | h1) | h1
        · exact .inl h1
        · exact .inr ⟨e, by simp, hb, .inl h1⟩
        · exact .inr ⟨e, by simp, hb, .inr h1⟩
      · exact .inl h1
    · exact .inr ⟨e', by simp [h1], h2⟩

theorem before_fold (ops : Array Oper) (T : Nat → Nat → Prop) (hT : ∀ i o, ops[i]? = some o → ∀ e ∈ o.after, Region.binds .any e = true → T i e.on ∧ ∀ j, T e.on j → T i j) : ∀ (l : List Oper) (acc : Array Nat), (∀ j, l[j]? = ops[acc.size + j]?) →
    (∀ i j, i < acc.size → (acc.getD i 0).testBit j = true → T i j) →
    ∀ i j, ((l.foldl (init := acc) fun acc o => acc.push (o.after.foldl (fun s e => if Region.binds .any e then s ||| 2 ^ e.on ||| acc.getD e.on 0 else s) 0)).getD i 0).testBit j = true → T i j := by
  intro l
  induction l with
  | nil =>
    intro acc _ h i j hij
    rcases Nat.lt_or_ge i acc.size with hlt | hge
    · exact h i j hlt hij
    · simp [Array.getElem?_eq_none hge] at hij
  | cons o r ih =>
    intro acc hl h i j hij
    rw [List.foldl_cons] at hij
    have ho : ops[acc.size]? = some o := by have := hl 0; simpa using this.symm
    refine ih _ (fun k => ?_) (fun i j hlt hij => ?_) i j hij
    · have := hl (k + 1)
      rw [List.getElem?_cons_succ] at this
      rw [this]; simp only [Array.size_push]; congr 1; omega
    · simp only [Array.size_push] at hlt
      by_cases hin : i < acc.size
      · refine h i j hin ?_
        rw [Array.getD_eq_getD_getElem?, Array.getElem?_push_lt hin] at hij
        rw [Array.getD_eq_getD_getElem?, Array.getElem?_eq_getElem hin]
        exact hij
      · have hie : i = acc.size := by omega
        subst hie
        rw [Array.getD_eq_getD_getElem?, Array.getElem?_push_size, Option.getD_some, ← Array.foldl_toList] at hij
        rcases bits_fold acc j _ _ hij with h1 | ⟨e, he, hb, h1⟩
        · simp at h1
        · obtain ⟨t1, t2⟩ := hT _ _ ho e (by simpa using he) hb
          rcases h1 with h1 | h1
          · rw [← h1]; exact t1
          · have hlt2 : e.on < acc.size := by
              rcases Nat.lt_or_ge e.on acc.size with h2 | h2
              · exact h2
              · simp [Array.getElem?_eq_none h2] at h1
            exact t2 j (h _ _ hlt2 h1)

theorem anc_rel {ops : Array Oper} {T : Nat → Nat → Prop} (hT : ∀ i o, ops[i]? = some o → ∀ e ∈ o.after, Region.binds .any e = true → T i e.on ∧ ∀ j, T e.on j → T i j) {i j : Nat} (h : isAnc ops i j = true) : T i j := by
  unfold isAnc Region.before at h
  rw [← Array.foldl_toList] at h
  exact before_fold ops T hT ops.toList #[] (fun j => by simp) (fun i j h => by simp at h) i j h
theorem anc_closed {ops : Array Oper} {S : Nat → Prop} (hS : Closed ops S) {i j : Nat} (h : isAnc ops i j = true) (hi : S i) : S j :=
  anc_rel (T := fun i j => S i → S j) (fun i o ho e he hb => ⟨fun hi => hS i o ho hi e he hb, fun j hj hi => hj (hS i o ho hi e he hb)⟩) h hi

/-! ### What is asked of such a region -/
def regEdges (ops : Array Oper) : Bool := (List.range ops.size).all fun i => match ops[i]? with
  | some o => o.after.all fun e => !Region.binds .any e || decide (e.on < i)
  | none => true
def regDsts (ops : Array Oper) : Bool := (List.range ops.size).all fun i => match ops[i]? with
  | some o => match o.dst with
    | some d => (List.range i).all fun j => match ops[j]? with
      | some p => decide (p.dst ≠ some d)
      | none => true
    | none => true
  | none => true
def regReads (ops : Array Oper) (B : Array Nat) : Bool := (List.range ops.size).all fun i => match ops[i]? with
  | some o => (List.range ops.size).all fun j => match ops[j]? with
    | some p => match p.dst with
      | some d => j == i || !(o.looksAt ops).contains d || (B.getD i 0).testBit j || (B.getD j 0).testBit i
      | none => true
    | none => true
  | none => true
def regMods (ops : Array Oper) (B : Array Nat) : Bool := (List.range ops.size).all fun i => match ops[i]? with
  | some o => quiet o.op || (List.range i).all fun j => match ops[j]? with
    | some p => quiet p.op || (B.getD i 0).testBit j
    | none => true
  | none => true
def regOkB (ops : Array Oper) : Bool := regEdges ops && regDsts ops && regReads ops (Region.before ops) && regMods ops (Region.before ops)

structure RegOk (ops : Array Oper) : Prop where
  edges : ∀ (i : Nat) (o : Oper), ops[i]? = some o → ∀ e ∈ o.after, Region.binds .any e = true → e.on < i
  dsts : ∀ (i j : Nat) (o p : Oper) (d : Tmp), ops[i]? = some o → ops[j]? = some p → o.dst = some d → p.dst = some d → i = j
  reads : ∀ (i j : Nat) (o p : Oper) (d : Tmp), ops[i]? = some o → ops[j]? = some p → p.dst = some d → d ∈ o.looksAt ops → j ≠ i → isAnc ops i j = true ∨ isAnc ops j i = true
  mods : ∀ (i j : Nat) (o p : Oper), ops[i]? = some o → ops[j]? = some p → quiet o.op = false → quiet p.op = false → j < i → isAnc ops i j = true

theorem lt_of_get {α : Type} {a : Array α} {i : Nat} {x : α} (h : a[i]? = some x) : i < a.size := getElem?_lt h

theorem regOk_of {ops : Array Oper} (h : regOkB ops = true) : RegOk ops := by
  simp only [regOkB, Bool.and_eq_true] at h
  obtain ⟨⟨⟨h1, h2⟩, h3⟩, h4⟩ := h
  have hd : ∀ (i j : Nat) (o p : Oper) (d : Tmp), ops[i]? = some o → ops[j]? = some p → o.dst = some d → p.dst = some d → ¬ j < i := by
    intro i j o p d hi hj hdi hdj hlt
    have := List.all_eq_true.1 h2 i (List.mem_range.2 (lt_of_get hi))
    rw [hi] at this
    simp only [hdi] at this
    have := List.all_eq_true.1 this j (List.mem_range.2 hlt)
    rw [hj] at this
    simp only [hdj, ne_eq, not_true_eq_false, decide_false, Bool.false_eq_true] at this
  refine ⟨?_, ?_, ?_, ?_⟩
  · intro i o hi e he hb
    have := List.all_eq_true.1 h1 i (List.mem_range.2 (lt_of_get hi))
    rw [hi] at this
    have := Array.all_eq_true'.1 this e he
    rw [hb] at this
    simpa using this
  · intro i j o p d hi hj hdi hdj
    have a1 := hd i j o p d hi hj hdi hdj
    have a2 := hd j i p o d hj hi hdj hdi
    omega
  · intro i j o p d hi hj hdj hl hne
    have := List.all_eq_true.1 h3 i (List.mem_range.2 (lt_of_get hi))
    rw [hi] at this
    have := List.all_eq_true.1 this j (List.mem_range.2 (lt_of_get hj))
    rw [hj] at this
    simp only [hdj, Bool.or_eq_true, beq_iff_eq, Bool.not_eq_true'] at this
    rcases this with ((h | h) | h) | h
    · exact absurd h hne
    · have : (o.looksAt ops).contains d = true := List.contains_iff_mem.2 hl
      rw [h] at this; cases this
    · exact .inl h
    · exact .inr h
  · intro i j o p hi hj hqi hqj hlt
    have := List.all_eq_true.1 h4 i (List.mem_range.2 (lt_of_get hi))
    rw [hi] at this
    simp only [hqi, Bool.false_or] at this
    have := List.all_eq_true.1 this j (List.mem_range.2 hlt)
    rw [hj] at this
    simp only [hqj, Bool.false_or] at this
    exact this

theorem anc_lt {ops : Array Oper} (ok : RegOk ops) {i j : Nat} (h : isAnc ops i j = true) : j < i :=
  anc_rel (T := fun i j => j < i) (fun i o ho e he hb => by
    have := ok.edges i o ho e he hb
    exact ⟨this, fun j hj => by omega⟩) h

/-! ### The evaluation -/
/-- Ahead of each operation: the slots, the memory, and what it will answer. -/
structure RSt where
  e : PT Value
  h : AHeap
  v : Value

variable [Sg]
def arun (P : Program) (K : Nat) (X : Ext) (call : ACall) (ops : Array Oper) : List Oper → PT Value → AHeap → Option (List RSt)
  | [], e, h => some [⟨e, h, undef⟩]
  | o :: r, e, h => match awanted ops o e with
    | none => none
    | some false => match arun P K X call ops r (aput e o.dst undef) h with
      | none => none
      | some l => some (⟨e, h, undef⟩ :: l)
    | some true => match astep P K X call o.op e h with
      | none => none
      | some (v, h1) => match arun P K X call ops r (aput e o.dst v) h1 with
        | none => none
        | some l => some (⟨e, h, v⟩ :: l)

/-- May the operation i be done when just the writing ones ahead of the place p have been? -/
def allowed (ops : Array Oper) (B : Array Nat) (i p : Nat) : Bool :=
  (List.range ops.size).all fun m => match ops[m]? with
    | some o => quiet o.op || (if m < p then !(B.getD m 0).testBit i else !(B.getD i 0).testBit m)
    | none => true
def places' (ops : Array Oper) : List Nat := 0 :: ((List.range ops.size).filter fun m => match ops[m]? with
  | some o => !quiet o.op
  | none => false).map (· + 1)
/-- Whatever looks at the memory sees the same whenever it is done. -/
def dynOk (P : Program) (K : Nat) (X : Ext) (ops : Array Oper) (B : Array Nat) (st : List RSt) : Bool :=
  (List.range ops.size).all fun i => match ops[i]?, st[i]? with
    | some o, some s => !quiet o.op || !reads o.op || (match awanted ops o s.e with
        | some true => (places' ops).all fun p => match st[p]? with
          | some q => !allowed ops B i p || (match aexec P X o.op (aval K s.e) q.h with
            | some (.val v, _) => veq v s.v
            | _ => false)
          | none => true
        | _ => true)
    | _, _ => true

def adraw (P : Program) (K : Nat) (X : Ext) (call : ACall) (ops : Array Oper) (e : PT Value) (h : AHeap) : Option (PT Value × AHeap) :=
  if regOkB ops = true then match arun P K X call ops ops.toList e h with
  | none => none
  | some st => if dynOk P K X ops (Region.before ops) st = true then match st[ops.size]? with
      | some s => some (s.e, s.h)
      | none => none
    else none
  else none

section
variable {P : Program} {W : World} {K : Nat} {J : Nat → Option Obj} {φ : Map} {h h' : AHeap} {w : World}

/-- What each operation did in the order of the text. -/
def StepAt (P : Program) (K : Nat) (X : Ext) (call : ACall) (ops : Array Oper) (o : Oper) (s t : RSt) : Prop :=
  t.e = aput s.e o.dst s.v ∧ ((awanted ops o s.e = some false ∧ s.v = undef ∧ t.h = s.h) ∨ (awanted ops o s.e = some true ∧ astep P K X call o.op s.e s.h = some (s.v, t.h)))

theorem arun_spec {X : Ext} {call : ACall} {ops : Array Oper} : ∀ (l : List Oper) (e : PT Value) (h : AHeap) (st : List RSt), arun P K X call ops l e h = some st →
    st.length = l.length + 1 ∧ (∃ v, st[0]? = some ⟨e, h, v⟩) ∧ ∀ (i : Nat) (o : Oper), l[i]? = some o → ∃ s t, st[i]? = some s ∧ st[i + 1]? = some t ∧ StepAt P K X call ops o s t := by
  intro l
  induction l with
  | nil =>
    intro e h st he
    simp only [arun, Option.some.injEq] at he
    subst he
    exact ⟨rfl, ⟨_, rfl⟩, fun i o h => by simp at h⟩
  | cons o r ih =>
    intro e h st he
    simp only [arun] at he
    split at he
    · cases he
    · rename_i hw
      split at he
      · cases he
      rename_i st' hst
      cases he
      obtain ⟨h1, ⟨v0, h2⟩, h3⟩ := ih _ _ _ hst
      refine ⟨by simp [h1], ⟨_, rfl⟩, fun i o' hi => ?_⟩
      cases i with
      | zero =>
        simp at hi
        subst hi
        exact ⟨⟨e, h, undef⟩, ⟨aput e o.dst undef, h, v0⟩, rfl, by simpa using h2, rfl, .inl ⟨hw, rfl, rfl⟩⟩
      | succ i =>
        obtain ⟨s, t, g1, g2, g3⟩ := h3 i o' (by simpa using hi)
        exact ⟨s, t, by simpa using g1, by simpa using g2, g3⟩
    · rename_i hw
      split at he
      · cases he
      rename_i v h1' hs
      split at he
      · cases he
      rename_i st' hst
      cases he
      obtain ⟨h1, ⟨v0, h2⟩, h3⟩ := ih _ _ _ hst
      refine ⟨by simp [h1], ⟨_, rfl⟩, fun i o' hi => ?_⟩
      cases i with
      | zero =>
        simp at hi
        subst hi
        exact ⟨⟨e, h, v⟩, ⟨aput e o.dst v, h1', v0⟩, rfl, by simpa using h2, rfl, .inr ⟨hw, hs⟩⟩
      | succ i =>
        obtain ⟨s, t, g1, g2, g3⟩ := h3 i o' (by simpa using hi)
        exact ⟨s, t, by simpa using g1, by simpa using g2, g3⟩

/-- Some slots alone. -/
def only (e : PT Value) (l : List Tmp) : PT Value := l.foldl (fun t s => match e.get s with | some v => t.set s v | none => t) .nil
theorem only_fold (e : PT Value) (s : Nat) : ∀ (l : List Tmp) (t : PT Value), (∀ i v, t.get i = some v → e.get i = some v) →
    (∀ v, (l.foldl (fun t s => match e.get s with | some v => t.set s v | none => t) t).get s = some v → e.get s = some v) ∧
    (s ∈ l ∨ t.get s = e.get s → (l.foldl (fun t s => match e.get s with | some v => t.set s v | none => t) t).get s = e.get s) ∧
    (∀ v, (l.foldl (fun t s => match e.get s with | some v => t.set s v | none => t) t).get s = some v → t.get s = some v ∨ s ∈ l) := by
  intro l
  induction l with
  | nil => intro t h; exact ⟨fun v hv => h s v hv, fun h1 => (by simpa using h1), fun v hv => .inl hv⟩
  | cons x r ih =>
    intro t h
    rw [List.foldl_cons]
    cases hx : e.get x with
    | none =>
      obtain ⟨g1, g2, g3⟩ := ih t h
      refine ⟨g1, fun h1 => g2 ?_, fun v hv => (g3 v hv).imp id (fun h => List.mem_cons_of_mem _ h)⟩
      rcases h1 with h1 | h1
      · rcases List.mem_cons.1 h1 with h1 | h1
        · subst h1
          right
          cases ht : t.get s with
          | none => rw [hx]
          | some v => rw [h _ _ ht] at hx; cases hx
        · exact .inl h1
      · exact .inr h1
    | some u =>
      obtain ⟨g1, g2, g3⟩ := ih (t.set x u) (fun i v hv => by
        rw [PT.get_set] at hv
        split at hv
        · rename_i hxi; subst hxi; cases hv; exact hx
        · exact h i v hv)
      refine ⟨g1, fun h1 => g2 ?_, fun v hv => ?_⟩
      · by_cases hsx : x = s
        · subst hsx; right; rw [PT.get_set_eq, hx]
        · rcases h1 with h1 | h1
          · rcases List.mem_cons.1 h1 with h1 | h1
            · exact absurd h1.symm hsx
            · exact .inl h1
          · right; rw [PT.get_set_ne _ _ hsx]; exact h1
      · rcases g3 v hv with h1 | h1
        · by_cases hsx : x = s
          · right; rw [hsx]; exact List.mem_cons_self
          · rw [PT.get_set_ne _ _ hsx] at h1; exact .inl h1
        · exact .inr (List.mem_cons_of_mem _ h1)
theorem only_get (e : PT Value) (l : List Tmp) (s : Nat) : (∀ v, (only e l).get s = some v → e.get s = some v ∧ s ∈ l) ∧ (s ∈ l → (only e l).get s = e.get s) := by
  obtain ⟨g1, g2, g3⟩ := only_fold e s l .nil (fun i v h => by simp at h)
  exact ⟨fun v hv => ⟨g1 v hv, (g3 v hv).resolve_left (by simp)⟩, fun h => g2 (.inl h)⟩

theorem aval_only {K : Nat} {e : PT Value} {ops : Array Oper} {o : Oper} : ∀ x ∈ o.op.operands, aval K (only e (o.looksAt ops)) x = aval K e x := by
  intro x hx
  cases x with
  | tmp t =>
    simp only [aval]
    refine (only_get e _ t).2 ?_
    exact List.mem_append_left _ (List.mem_filterMap.2 ⟨.tmp t, by simpa using hx, rfl⟩)
  | _ => rfl
theorem awanted_only {e : PT Value} {ops : Array Oper} {o : Oper} : awanted ops o (only e (o.looksAt ops)) = awanted ops o e := by
  unfold awanted
  cases hg : o.guard with
  | none => rfl
  | some jw =>
    obtain ⟨j, want⟩ := jw
    simp only
    cases hd : (ops[j]?).bind (·.dst) with
    | none => rfl
    | some d =>
      simp only
      have : d ∈ o.looksAt ops := by
        unfold Oper.looksAt
        rw [hg]
        refine List.mem_append_right _ ?_
        simp only [hd]
        simp
      rw [(only_get e _ d).2 this]
end
end Go.Ab
