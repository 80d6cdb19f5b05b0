/- The abstract evaluator's operations, and that the model's do what they tell. -/
import Derived.Test.YtcfmeiejfofgpaaGreatDoorAbA
namespace Go.Ab
open Go.RowKit
set_option linter.unusedVariables false
set_option linter.unusedSectionVars false

/-! ### Operations that only compute -/
def pureRun {α : Type} (P : Program) : Sem α → Option α
  | .pure a => some a
  | .program k => pureRun P (k P)
  | .mark _ k => pureRun P k
  | _ => none

theorem pureRun_run {α : Type} (P : Program) (w : World) (s : Sem α) (a : α) (h : pureRun P s = some a) : s.run P w = .ok a w := by
  induction s with
  | pure b => simp only [pureRun, Option.some.injEq] at h; subst h; rfl
  | program k ih => exact ih P h
  | mark m k ih => exact ih h
  | _ => simp [pureRun] at h

theorem pureRun_bind {α β : Type} (P : Program) (s : Sem α) (f : α → Sem β) : pureRun P (s >>= f) = (pureRun P s).bind fun a => pureRun P (f a) := by
  show pureRun P (s.bind f) = _
  induction s with
  | pure b => rfl
  | program k ih => exact ih P
  | mark m k ih => exact ih
  | _ => rfl

/-- No address in it at all, down to a depth. -/
def cleanN : Nat → Value → Bool
  | _, .bool _ | _, .int _ _ | _, .string _ | _, .nilFunc | _, .nilIface | _, .float _ _ | _, .complex _ _ _ => true
  | _, .pointer none | _, .map none | _, .chan none | _, .slice none _ _ => true
  | n + 1, .iface _ v => cleanN n v
  | n + 1, .agg c => c.toList.all (cleanN n)
  | n + 1, .tuple c => c.toList.all (cleanN n)
  | _, _ => false
abbrev clean (v : Value) : Bool := cleanN 6 v

variable [Sg]
theorem cleanN_eq (φ : Map) : ∀ (n : Nat) (v v' : Value), cleanN n v = true → VR φ v v' → v' = v := by
  intro n
  induction n with
  | zero =>
    intro v v' h r
    cases r <;> first | rfl | (simp [cleanN] at h; done)
  | succ n ih =>
    have arr : ∀ l l' : List Value, l.all (cleanN n) = true → VRs φ l l' → l' = l := by
      intro l l' h r
      induction r with
      | nil => rfl
      | cons h1 _ ih2 =>
        simp only [List.all_cons, Bool.and_eq_true] at h
        rw [ih _ _ h.1 h1, ih2 h.2]
    intro v v' h r
    cases r with
    | flat _ => rfl
    | iface r => simp only [cleanN] at h; rw [ih _ _ h r]
    | agg h1 h2 => simp only [cleanN] at h; have := arr _ _ h (VRs.of_array h1 h2); rw [Array.toList_inj.1 this]
    | tuple h1 h2 => simp only [cleanN] at h; have := arr _ _ h (VRs.of_array h1 h2); rw [Array.toList_inj.1 this]
    | _ => simp [cleanN] at h
theorem cleanN_self (φ : Map) : ∀ (n : Nat) (v : Value), cleanN n v = true → VR φ v v := by
  intro n
  induction n with
  | zero =>
    intro v h
    refine .flat ?_
    cases v <;> first | rfl | (simp [cleanN] at h; done) | (rename_i o; cases o <;> first | rfl | (simp [cleanN] at h; done)) | (rename_i o _ _; cases o <;> first | rfl | (simp [cleanN] at h; done))
  | succ n ih =>
    have arr : ∀ l : List Value, l.all (cleanN n) = true → VRs φ l l := by
      intro l h
      induction l with
      | nil => exact .nil
      | cons v l ih2 => simp only [List.all_cons, Bool.and_eq_true] at h; exact .cons (ih v h.1) (ih2 h.2)
    intro v h
    cases v with
    | iface t v => simp only [cleanN] at h; exact .iface (ih v h)
    | agg c => simp only [cleanN] at h; exact .of_aggs (arr _ h)
    | tuple c => simp only [cleanN] at h; exact .of_tuples (arr _ h)
    | pointer o => cases o with | none => exact .flat rfl | some => simp [cleanN] at h
    | map o => cases o with | none => exact .flat rfl | some => simp [cleanN] at h
    | chan o => cases o with | none => exact .flat rfl | some => simp [cleanN] at h
    | slice o _ _ => cases o with | none => exact .flat rfl | some => simp [cleanN] at h
    | func _ _ _ => simp [cleanN] at h
    | _ => exact .flat rfl
theorem clean_eq {φ : Map} {v v' : Value} (h : clean v = true) (r : VR φ v v') : v' = v := cleanN_eq φ _ _ _ h r
theorem clean_self {φ : Map} {v : Value} (h : clean v = true) : VR φ v v := cleanN_self φ _ _ h
theorem clean_mem {φ : Map} {l : List Value} (h : l.all clean = true) : VRs φ l l := by
  induction l with
  | nil => exact .nil
  | cons v l ih => simp only [List.all_cons, Bool.and_eq_true] at h; exact .cons (clean_self h.1) (ih h.2)

/-! ### What comes of an operation -/
inductive AN where
  | val (v : Value)
  | call (f : FuncId) (args : List Value)

def Met (P : Program) (W : World) (K : Nat) (J : Nat → Option Obj) (φ : Map) (an : AN) (h' : AHeap) (r : Result Next) : Prop :=
  ∃ ψ w', φ.le ψ ∧ Rel P W K J ψ h' w' ∧ match an with
    | .val v => ∃ v', (r = .ok (.value v') w' ∨ (r = .ok .skip w' ∧ v' = undef)) ∧ VR ψ v v'
    | .call f args => ∃ args' : Array Value, r = .ok (.enter f args') w' ∧ VRs ψ args args'.toList

section
variable {P : Program} {W : World} {K : Nat} {J : Nat → Option Obj} {φ : Map} {h h' : AHeap} {w : World}

theorem Met.value {v v' : Value} {r : Result Next} (R : Rel P W K J φ h w) (hr : r = .ok (.value v') w) (hv : VR φ v v') : Met P W K J φ (.val v) h r :=
  ⟨φ, w, φ.le_refl, R, v', .inl hr, hv⟩

theorem run_v {s : Sem Value} {v : Value} {w w' : World} (h : s.run P w = .ok v w') : (do pure (Next.value (← s)) : Sem Next).run P w = .ok (.value v) w' := by
  simp [h]
theorem run_u {s : Sem Unit} {w w' : World} (h : s.run P w = .ok () w') : (do s; pure Next.skip : Sem Next).run P w = .ok .skip w' := by
  simp [h]

theorem run_underlying {t : TypeId} {d : TypeDesc} (w : World) (h : P.underlying t = some d) : (underlying t).run P w = .ok d w := by simp [underlying, h]
theorem run_typeInfo {t : TypeId} {i : TypeInfo} (w : World) (h : P.info? t = some i) : (typeInfo t).run P w = .ok i w := by simp [typeInfo, h]
theorem run_sizeOf {t : TypeId} {i : TypeInfo} (w : World) (h : P.info? t = some i) : (sizeOf t).run P w = .ok i.size w := by simp [sizeOf, run_typeInfo w h]
theorem run_zeroValue {t : TypeId} {i : TypeInfo} {z : Value} (w : World) (h : P.info? t = some i) (hz : i.zero = some z) : (zeroValue t).run P w = .ok z w := by simp [zeroValue, run_typeInfo w h, hz]

def isAggB : TypeDesc → Bool
  | .struct _ | .array _ _ => true
  | _ => false
theorem run_isAgg {t : TypeId} {d : TypeDesc} (w : World) (h : P.underlying t = some d) : (isAgg t).run P w = .ok (isAggB d) w := by
  simp only [isAgg, Sem.run_bind, run_underlying w h, Result.andThen_ok]
  cases d <;> rfl

/-! Reading and writing variables. -/
def aload (P : Program) (t : TypeId) (a : Addr) (h : AHeap) : Option Value :=
  match P.underlying t with
  | none => none
  | some d => if isAggB d = true then
      match P.info? t with
      | none => none
      | some i => match h.row? a i.size with
        | none => none
        | some l => some (.agg l.toArray)
    else h.cell? a
theorem aload_ok {t : TypeId} {a : Addr} {v : Value} {x : At} (R : Rel P W K J φ h w) (e : aload P t a h = some v) (hx : φ a.block = some x) :
    ∃ v', (loadVar t ⟨x.b, a.off + x.d, none⟩).run P w = .ok v' w ∧ VR φ v v' := by
  unfold aload at e
  split at e
  · cases e
  · rename_i d hd
    split at e
    · rename_i ha
      split at e
      · cases e
      · rename_i i hi
        split at e
        · cases e
        · rename_i l hl
          cases e
          obtain ⟨l', h1, h2, _⟩ := R.row hl hx
          refine ⟨.agg l'.toArray, ?_, .of_aggs (by simpa using h2)⟩
          simp [loadVar, run_isAgg w hd, ha, run_sizeOf w hi, h1]
    · rename_i ha
      obtain ⟨_, v', h1, h2⟩ := R.cell e hx
      refine ⟨v', ?_, h2⟩
      simp [loadVar, run_isAgg w hd, ha, h1]

def astore (P : Program) (t : TypeId) (a : Addr) (v : Value) (h : AHeap) : Option AHeap :=
  match P.info? t with
  | none => none
  | some i => if v.cells.size = i.size then h.store a v.cells.toList else none
theorem astore_ok {t : TypeId} {a : Addr} {v v' : Value} {x : At} (R : Rel P W K J φ h w) (e : astore P t a v h = some h') (hx : φ a.block = some x) (hv : VR φ v v') :
    ∃ w', (storeVar t ⟨x.b, a.off + x.d, none⟩ v').run P w = .ok () w' ∧ Rel P W K J φ h' w' := by
  unfold astore at e
  split at e
  · cases e
  · rename_i i hi
    split at e
    · rename_i hs
      obtain ⟨w', h1, h2⟩ := R.store e hx hv.cells
      refine ⟨w', ?_, h2⟩
      have hsz : v'.cells.size = i.size := by
        have := hv.cells.length
        simp only [Array.length_toList] at this
        omega
      simp [storeVar, run_sizeOf w hi, hsz, h1]
    · cases e

/-- A new variable. -/
def anew (t : TypeId) (v : Value) (h : AHeap) : Value × AHeap :=
  (.pointer (some ⟨h.next, 0, none⟩), h.new (.cells (PT.ofList v.cells.toList) v.cells.size t))
theorem anew_ok {t : TypeId} {v v' : Value} (R : Rel P W K J φ h w) (hv : VR φ v v') :
    ∃ ψ w' a, φ.le ψ ∧ (newVar t v').run P w = .ok a w' ∧ Rel P W K J ψ (anew t v h).2 w' ∧ VR ψ (anew t v h).1 (.pointer (some a)) := by
  obtain ⟨ψ, h1, h2, h3, h4⟩ := R.newRow hv.cells t 0 #[] false (fun h => by cases h)
  refine ⟨ψ, _, ⟨w.heap.size, 0, none⟩, h1, ?_, h4, ?_⟩
  · have e : v'.cells.toList.toArray ++ #[] = v'.cells := by simp
    rw [e] at h3 ⊢
    exact h3
  · exact .ptr (a := ⟨h.next, 0, none⟩) h2 rfl
end
end Go.Ab
