/- The abstract evaluator: a frame's slots; operations one behind the other; and that the model's come to what they tell. -/
import Derived.Test.YtcfmeiejfofgpaaGreatDoorAbJ
namespace Go.Ab
open Go.RowKit
set_option linter.unusedVariables false
set_option linter.unusedSectionVars false

section
variable [Sg] {P : Program} {W : World} {K : Nat} {J : Nat → Option Obj} {φ : Map} {h h' : AHeap} {w : World}

def aval (K : Nat) (e : PT Value) : Operand → Option Value
  | .tmp t => e.get t
  | .const v => if clean v = true then some v else none
  | .global g => if g < K then some (.pointer (some ⟨g, 0, none⟩)) else none
  | .func f => some (.func (.func f) #[] #[])

/-- A frame's slots, as far as they are known. -/
structure ER (φ : Map) (n : Nat) (e : PT Value) (tmps : Array Value) : Prop where
  size : tmps.size = n
  get : ∀ i v, e.get i = some v → ∃ v', tmps[i]? = some v' ∧ VR φ v v'
theorem ER.mono {ψ : Map} (hle : φ.le ψ) {n : Nat} {e : PT Value} {tmps : Array Value} (r : ER φ n e tmps) : ER ψ n e tmps :=
  ⟨r.size, fun i v hv => by obtain ⟨v', h1, h2⟩ := r.get i v hv; exact ⟨v', h1, h2.mono hle⟩⟩

theorem aval_ok (R : Rel P W K J φ h w) {n : Nat} {e : PT Value} {a : Act} (E : ER φ n e a.tmps) : ∀ x v, aval K e x = some v → VR φ v (a.eval x) := by
  intro x v hx
  cases x with
  | tmp t =>
    obtain ⟨v', h1, h2⟩ := E.get t v hx
    simp only [Act.eval, Array.getD_eq_getD_getElem?, h1, Option.getD_some]
    exact h2
  | const u =>
    simp only [aval] at hx
    split at hx
    · rename_i hc; cases hx; exact clean_self hc
    · cases hx
  | global g =>
    simp only [aval] at hx
    split at hx
    · rename_i hg
      cases hx
      obtain ⟨cs, es, hs⟩ := R.self g hg
      exact .ptr (a := ⟨g, 0, none⟩) (x := ⟨g, 0, es, cs, false⟩) hs rfl
    · cases hx
  | func f =>
    simp only [aval, Option.some.injEq] at hx
    subst hx
    exact .func nofun rfl (fun i h1 => by simp at h1) rfl (fun i h1 => by simp at h1)

def aput (e : PT Value) (d : Option Tmp) (v : Value) : PT Value :=
  match d with
  | some d => e.set d v
  | none => e
def dstOk (n : Nat) (o : Oper) : Bool :=
  match o.dst with
  | some d => decide (d < n)
  | none => true
theorem ER.put {n : Nat} {e : PT Value} {a : Act} (E : ER φ n e a.tmps) {o : Oper} (hd : dstOk n o = true) {v v' : Value} (hv : VR φ v v') : ER φ n (aput e o.dst v) (a.put o.dst v').tmps := by
  unfold aput Act.put
  unfold dstOk at hd
  cases hdst : o.dst with
  | none => exact E
  | some d =>
    rw [hdst] at hd
    simp only [decide_eq_true_eq] at hd
    refine ⟨by simpa using E.size, fun i u hu => ?_⟩
    rw [PT.get_set] at hu
    by_cases hi : d = i
    · subst hi
      rw [if_pos rfl] at hu; cases hu
      exact ⟨v', by simp [E.size, hd], hv⟩
    · rw [if_neg hi] at hu
      obtain ⟨u', h1, h2⟩ := E.get i u hu
      exact ⟨u', by simp only [Array.getElem?_setIfInBounds_ne hi]; exact h1, h2⟩
theorem VR.undef {φ : Map} : VR φ undef undef := .of_tuples .nil

def awanted (ops : Array Oper) (o : Oper) (e : PT Value) : Option Bool :=
  match o.guard with
  | none => some true
  | some (j, want) => match (ops[j]?).bind (·.dst) with
    | none => none
    | some d => match e.get d with
      | some (.bool b) => some (b == want)
      | some (.tuple _) => some false
      | _ => none
theorem awanted_ok {ops : Array Oper} {o : Oper} {n : Nat} {e : PT Value} {tmps : Array Value} {b : Bool} (E : ER φ n e tmps) (h : awanted ops o e = some b) : Region.wanted o (yielded ops tmps) = b := by
  unfold awanted at h
  unfold Region.wanted
  split at h
  · rename_i hg; cases h; rw [hg]
  · rename_i j want hg
    rw [hg]
    simp only
    split at h
    · cases h
    rename_i d hd
    unfold yielded
    rw [hd]
    simp only [Option.bind_some]
    split at h
    · rename_i b' hb
      cases h
      obtain ⟨v', h1, h2⟩ := E.get _ _ hb
      have := h2.flat_inv rfl
      subst this
      rw [h1]
      cases b' <;> cases want <;> rfl
    · rename_i c hc
      cases h
      obtain ⟨v', h1, h2⟩ := E.get _ _ hc
      obtain ⟨c', rfl, _⟩ := h2.tuple_inv
      rw [h1]
      rfl
    · cases h

abbrev ACall := FuncId → List Value → AHeap → Option (Value × AHeap)
/-- What calls come to. -/
def CallGood (P : Program) (W : World) (K : Nat) (call : ACall) : Prop :=
  ∀ f args h r h', call f args h = some (r, h') → ∀ J φ w args', Rel P W K J φ h w → VRs φ args args' →
    Calls P f args'.toArray w fun en w' => ∃ ψ r', φ.le ψ ∧ en = .returned r' ∧ VR ψ r r' ∧ Rel P W K J ψ h' w'

/-- An operation that is wanted, whatever it calls. -/
def astep (P : Program) (K : Nat) (X : Ext) (call : ACall) (op : Op) (e : PT Value) (h : AHeap) : Option (Value × AHeap) :=
  match aexec P X op (aval K e) h with
  | none => none
  | some (.val v, h1) => some (v, h1)
  | some (.call f args, h1) => call f args h1
theorem astep_wp {X : Ext} (hX : ExtOk P W K X) (hN : NamesOk P) {call : ACall} (hc : CallGood P W K call) {o : Oper} {n : Nat} {e : PT Value} {a : Act} {v : Value} {Q : Exit → Act → World → Prop} {next : Act → World → Prop}
    (R : Rel P W K J φ h w) (E : ∀ x v, aval K e x = some v → VR φ v (a.eval x)) (he : astep P K X call o.op e h = some (v, h'))
    (hn : ∀ ψ w' v', φ.le ψ → Rel P W K J ψ h' w' → VR ψ v v' → next (a.put o.dst v') w') : o.wp P a w next Q := by
  unfold astep at he
  split at he
  · cases he
  · rename_i v1 h1 hx
    cases he
    obtain ⟨ψ, w', k1, k2, v', k3, k4⟩ := aexec_ok hX hN (o := o) R E hx
    unfold Oper.wp
    rcases k3 with k3 | ⟨k3, rfl⟩
    · rw [k3]; exact hn ψ w' v' k1 k2 k4
    · rw [k3]; exact hn ψ w' _ k1 k2 k4
  · rename_i f args h1 hx
    obtain ⟨ψ, w', k1, k2, args', k3, k4⟩ := aexec_ok hX hN (o := o) R E hx
    unfold Oper.wp
    rw [k3, Oper.upon_enter]
    have e2 : args' = args'.toList.toArray := by simp
    rw [e2]
    refine (hc f args h1 v h' he J ψ w' _ k2 k4).mono ?_
    rintro en w2 ⟨χ, r', g1, rfl, g2, g3⟩
    exact hn χ w2 r' (Map.le_trans k1 g1) g3 g2

def aops (P : Program) (K : Nat) (X : Ext) (call : ACall) (ops : Array Oper) : List Oper → PT Value → AHeap → Option (PT Value × AHeap)
  | [], e, h => some (e, h)
  | o :: r, e, h => match awanted ops o e with
    | none => none
    | some false => aops P K X call ops r (aput e o.dst undef) h
    | some true => match astep P K X call o.op e h with
      | none => none
      | some (v, h1) => aops P K X call ops r (aput e o.dst v) h1

/-- What an evaluation says of the model's. -/
def Post (P : Program) (W : World) (K : Nat) (J : Nat → Option Obj) (φ : Map) (n : Nat) (x : Exit) (e' : PT Value) (h' : AHeap) : Exit → Act → World → Prop :=
  fun y a' w' => y = x ∧ a'.defers = [] ∧ ∃ ψ, φ.le ψ ∧ Rel P W K J ψ h' w' ∧ ER ψ n e' a'.tmps

theorem Act.put_defers' (a : Act) (d : Option Tmp) (v : Value) : (a.put d v).defers = a.defers := by cases d <;> rfl

theorem aops_ok {X : Ext} (hX : ExtOk P W K X) (hN : NamesOk P) {call : ACall} (hc : CallGood P W K call) {ops : Array Oper} {n : Nat} (hd : ∀ o ∈ ops.toList, dstOk n o = true) {e' : PT Value} {Q : Exit → Act → World → Prop} :
    ∀ (l : List Oper) (i : Nat) (φ : Map) (e : PT Value) (h : AHeap) (a : Act) (w : World), (∀ j, l[j]? = ops[i + j]?) → aops P K X call ops l e h = some (e', h') → Rel P W K J φ h w → ER φ n e a.tmps → a.defers = [] →
      (∀ a' w', Post P W K J φ n .normal e' h' .normal a' w' → Q .normal a' w') → wpOps P ops Q (List.range' i l.length) a w := by
  intro l
  induction l with
  | nil =>
    intro i φ e h a w hl he R E hdf hq
    simp only [aops, Option.some.injEq, Prod.mk.injEq] at he
    obtain ⟨rfl, rfl⟩ := he
    exact hq a w ⟨rfl, hdf, φ, φ.le_refl, R, E⟩
  | cons o r ih =>
    intro i φ e h a w hl he R E hdf hq
    have hoi : ops[i]? = some o := by have := hl 0; simpa using this.symm
    have hmem : dstOk n o = true := hd o (by simpa using List.mem_of_getElem? (show ops.toList[i]? = some o by simpa using hoi))
    have hl' : ∀ j, r[j]? = ops[i + 1 + j]? := fun j => by
      have := hl (j + 1)
      rw [List.getElem?_cons_succ] at this
      rw [this, show i + (j + 1) = i + 1 + j by omega]
    simp only [aops] at he
    simp only [List.length_cons, List.range'_succ, wpOps, hoi]
    split at he
    · cases he
    · rename_i hw
      rw [awanted_ok E hw]
      simp only [Bool.false_eq_true, if_false]
      exact ih (i + 1) φ _ h _ w hl' he R (E.put hmem VR.undef) (by rw [Act.put_defers']; exact hdf) hq
    · rename_i hw
      rw [awanted_ok E hw]
      simp only [if_true]
      split at he
      · cases he
      rename_i v h1 hs
      refine .inl (astep_wp hX hN hc (n := n) R (aval_ok R E) hs fun ψ w' v' k1 k2 k3 => ?_)
      refine ih (i + 1) ψ _ h1 _ w' hl' he k2 ((E.mono k1).put hmem k3) (by rw [Act.put_defers']; exact hdf) fun a' w' hp => ?_
      obtain ⟨g1, g2, χ, g3, g4⟩ := hp
      exact hq a' w' ⟨g1, g2, χ, Map.le_trans k1 g3, g4⟩

theorem aregion_ok {X : Ext} (hX : ExtOk P W K X) (hN : NamesOk P) {call : ACall} (hc : CallGood P W K call) {ops : Array Oper} {n id : Nat} (hd : ∀ o ∈ ops.toList, dstOk n o = true) {e e' : PT Value} {a : Act}
    (he : aops P K X call ops ops.toList e h = some (e', h')) (R : Rel P W K J φ h w) (E : ER φ n e a.tmps) (hdf : a.defers = []) : (Code.region id ops false).wp P (Post P W K J φ n .normal e' h') a w := by
  refine wp_region ?_
  have := aops_ok hX hN hc hd (Q := Post P W K J φ n .normal e' h') ops.toList 0 φ e h a w (fun j => by simp) he R E hdf (fun a' w' hp => hp)
  rw [List.range_eq_range']
  simpa using this
end
end Go.Ab
