/- The abstract evaluator: one operation of the model's code, and that the model's comes to what it tells. -/
import Derived.Test.YtcfmeiejfofgpaaGreatDoorAbI
namespace Go.Ab
open Go.RowKit
set_option linter.unusedVariables false
set_option linter.unusedSectionVars false

section
variable [Sg] {P : Program} {W : World} {K : Nat} {J : Nat → Option Obj} {φ : Map} {h h' : AHeap} {w : World}

abbrev Env := Operand → Option Value
def avals (ρ : Env) : List Operand → Option (List Value)
  | [] => some []
  | x :: r => match ρ x with
    | none => none
    | some v => match avals ρ r with
      | none => none
      | some l => some (v :: l)
def aparts (ρ : Env) : List (Nat × Operand) → Option (List (Nat × Value))
  | [] => some []
  | (i, x) :: r => match ρ x with
    | none => none
    | some v => match aparts ρ r with
      | none => none
      | some l => some ((i, v) :: l)
def aopt (ρ : Env) : Option Operand → Option (Option Value)
  | none => some none
  | some x => match ρ x with
    | none => none
    | some v => match v with
      | .int k n => some (some (.int k n))
      | _ => none

theorem avals_ok {ρ : Env} {ρ' : Operand → Value} (hρ : ∀ x v, ρ x = some v → VR φ v (ρ' x)) : ∀ (l : List Operand) (vs : List Value), avals ρ l = some vs → VRs φ vs (l.map ρ') := by
  intro l
  induction l with
  | nil => intro vs e; simp only [avals, Option.some.injEq] at e; subst e; exact .nil
  | cons x r ih =>
    intro vs e
    simp only [avals] at e
    split at e
    · cases e
    rename_i v hv
    split at e
    · cases e
    rename_i l hl
    cases e
    exact .cons (hρ _ _ hv) (ih _ hl)
theorem aparts_ok {ρ : Env} {ρ' : Operand → Value} (hρ : ∀ x v, ρ x = some v → VR φ v (ρ' x)) : ∀ (l : List (Nat × Operand)) (vs : List (Nat × Value)), aparts ρ l = some vs →
    vs.map (·.1) = (l.map fun (i, x) => (i, ρ' x)).map (·.1) ∧ VRs φ (vs.map (·.2)) ((l.map fun (i, x) => (i, ρ' x)).map (·.2)) := by
  intro l
  induction l with
  | nil => intro vs e; simp only [aparts, Option.some.injEq] at e; subst e; exact ⟨rfl, .nil⟩
  | cons p r ih =>
    obtain ⟨i, x⟩ := p
    intro vs e
    simp only [aparts] at e
    split at e
    · cases e
    rename_i v hv
    split at e
    · cases e
    rename_i l hl
    cases e
    obtain ⟨h1, h2⟩ := ih _ hl
    exact ⟨by simp only [List.map_cons, h1], .cons (hρ _ _ hv) h2⟩
theorem aopt_ok {ρ : Env} {ρ' : Operand → Value} (hρ : ∀ x v, ρ x = some v → VR φ v (ρ' x)) {o : Option Operand} {v : Option Value} (e : aopt ρ o = some v) : o.map ρ' = v := by
  cases o with
  | none => simp only [aopt, Option.some.injEq] at e; subst e; rfl
  | some x =>
    simp only [aopt] at e
    split at e
    · cases e
    rename_i u hu
    split at e
    · cases e
      have := (hρ _ _ hu).flat_inv rfl
      simp [this]
    · cases e

def abuiltin (P : Program) (b : Builtin) (ts : Array TypeId) (vs : List Value) (h : AHeap) : Option (Value × AHeap) :=
  match b, vs with
  | .append, [s, x] => match ts.toList with
    | [st, xt] => aappendT P st xt s x h
    | _ => none
  | .len, [v] => match ts[0]? with
    | some t => match alen P t v with
      | none => none
      | some r => some (r, h)
    | none => none
  | .copy, [d, s] => match ts[0]? with
    | some t => acopy P t d s h
    | none => none
  | .delete, [m, k] => match ts[0]? with
    | some t => match adelete P t m k h with
      | none => none
      | some h1 => some (.tuple #[], h1)
    | none => none
  | .max, _ => match amm true vs with
    | none => none
    | some r => some (r, h)
  | .min, _ => match amm false vs with
    | none => none
    | some r => some (r, h)
  | _, _ => none

theorem abuiltin_ok {b : Builtin} {ts : Array TypeId} {ty : TypeId} {cs : Array Bool} {vs vs' : List Value} {v : Value} (R : Rel P W K J φ h w) (e : abuiltin P b ts vs h = some (v, h')) (hv : VRs φ vs vs') :
    Met P W K J φ (.val v) h' ((builtin b ts ty cs vs'.toArray).run P w) := by
  unfold abuiltin at e
  split at e
  · rename_i s x
    cases hv with
    | cons h1 hv => cases hv with
      | cons h2 hv =>
        cases hv
        split at e
        case h_2 => cases e
        rename_i st xt hts
        have hts' : ts = #[st, xt] := by rw [← Array.toArray_toList (xs := ts), hts]
        subst hts'
        obtain ⟨ψ, w', v', k1, k2, k3, k4⟩ := aappend_ok (ty := ty) R e h1 h2
        exact ⟨ψ, w', k1, k3, v', .inl (run_v k2), k4⟩
  · cases hv with
    | cons h1 hv =>
      cases hv
      split at e
      case h_2 => cases e
      rename_i t ht
      split at e
      · cases e
      rename_i r hr
      cases e
      obtain ⟨r', k1, k2⟩ := alen_ok (ty := ty) w ht hr h1
      exact .value R (run_v k1) k2
  · cases hv with
    | cons h1 hv => cases hv with
      | cons h2 hv =>
        cases hv
        split at e
        case h_2 => cases e
        rename_i t ht
        obtain ⟨ψ, w', v', k1, k2, k3, k4⟩ := acopy_ok (ty := ty) R ht e h1 h2
        exact ⟨ψ, w', k1, k3, v', .inl (run_v k2), k4⟩
  · cases hv with
    | cons h1 hv => cases hv with
      | cons h2 hv =>
        cases hv
        split at e
        case h_2 => cases e
        rename_i t ht
        split at e
        · cases e
        rename_i h1' hd
        cases e
        obtain ⟨w', k1, k2⟩ := adelete_ok (ty := ty) R ht hd h1 h2
        exact ⟨φ, w', φ.le_refl, k2, .tuple #[], .inl (run_v k1), .of_tuples .nil⟩
  · split at e
    · cases e
    rename_i r hr
    cases e
    obtain ⟨r', k1, k2⟩ := amm_ok (ts := ts) (ty := ty) w hr hv
    exact .value R (run_v k1) k2
  · split at e
    · cases e
    rename_i r hr
    cases e
    obtain ⟨r', k1, k2⟩ := amm_ok (ts := ts) (ty := ty) w hr hv
    exact .value R (run_v k1) k2
  · cases e

def acall (P : Program) (X : Ext) (c : Call) (ρ : Env) (h : AHeap) : Option (AN × AHeap) :=
  match avals ρ c.args.toList with
  | none => none
  | some vs => match c.callee with
    | .builtin b => match abuiltin P b c.argTypes vs h with
      | none => none
      | some (v, h1) => some (.val v, h1)
    | .value f => match ρ f with
      | some (.func (.func g) first captured) => acallFunc P X g (first.toList ++ vs ++ captured.toList) h
      | _ => none
    | .invoke recv name => match ρ recv with
      | some r => acallMethod P X r name vs h
      | none => none
theorem acall_ok {X : Ext} (hX : ExtOk P W K X) (hN : NamesOk P) {c : Call} {ty : TypeId} {ρ : Env} {ρ' : Operand → Value} {an : AN} (R : Rel P W K J φ h w) (hρ : ∀ x v, ρ x = some v → VR φ v (ρ' x))
    (e : acall P X c ρ h = some (an, h')) : Met P W K J φ an h' ((do let d ← resolve ρ' c ty; invoke d.target d.args : Sem Next).run P w) := by
  unfold acall at e
  split at e
  · cases e
  rename_i vs hvs
  have hv := avals_ok hρ _ _ hvs
  have harr : c.args.map ρ' = (c.args.toList.map ρ').toArray := by rw [← Array.toList_map, Array.toArray_toList]
  split at e
  · rename_i b hb
    split at e
    · cases e
    rename_i v h1 hbi
    cases e
    have := abuiltin_ok (ty := ty) (cs := c.args.map fun | .const _ => true | _ => false) R hbi hv
    simp only [resolve, hb, Sem.run_bind, Sem.run_pure, Result.andThen_ok, invoke, harr]
    exact this
  · rename_i f hf
    split at e
    case h_2 => cases e
    rename_i g first captured hg
    obtain ⟨p', c', hr, q1, q2⟩ := (hρ _ _ hg).func_inv
    have := acallFunc_ok hX hN R e ((q1.append hv).append q2)
    simp only [resolve, hf, hr, Deferred.ofValue, Sem.run_bind, Sem.run_pure, Result.andThen_ok, invoke]
    have e2 : p' ++ c.args.map ρ' ++ c' = (p'.toList ++ c.args.toList.map ρ' ++ c'.toList).toArray := by simp
    rw [e2]
    exact this
  · rename_i recv name hc
    split at e
    case h_2 => cases e
    rename_i r hr
    have := acallMethod_ok hX hN R e (hρ _ _ hr) hv
    simp only [resolve, hc, Sem.run_bind, Sem.run_pure, Result.andThen_ok, invoke, harr]
    have e1 : (#[ρ' recv] ++ (c.args.toList.map ρ').toArray)[0]? = some (ρ' recv) := by simp
    have e2 : (#[ρ' recv] ++ (c.args.toList.map ρ').toArray).extract 1 (#[ρ' recv] ++ (c.args.toList.map ρ').toArray).size = (c.args.toList.map ρ').toArray := by
      rw [show #[ρ' recv] ++ (c.args.toList.map ρ').toArray = (ρ' recv :: c.args.toList.map ρ').toArray by simp]
      simp only [List.size_toArray, List.extract_toArray, List.extract_eq_take_drop, List.drop_succ_cons, List.drop_zero, List.length_cons, Nat.add_sub_cancel]
      rw [List.take_of_length_le (Nat.le_refl _)]
    rw [e1]
    simp only []
    rw [e2]
    exact this

/-- One operation. -/
def aexec (P : Program) (X : Ext) (op : Op) (ρ : Env) (h : AHeap) : Option (AN × AHeap) :=
  match op with
  | .move x | .assign x => match ρ x with
    | none => none
    | some v => some (.val v, h)
  | .pick c a b => match ρ c with
    | some (.bool true) => match ρ a with
      | none => none
      | some v => some (.val v, h)
    | some (.bool false) => match ρ b with
      | none => none
      | some v => some (.val v, h)
    | _ => none
  | .alloc elem => match P.info? elem with
    | none => none
    | some i => match i.zero with
      | none => none
      | some z => if noAddr z = true ∨ z.cells.toList.all noAddr = true then some (.val (anew elem z h).1, (anew elem z h).2) else none
  | .box elem x => match ρ x with
    | none => none
    | some v => some (.val (anew elem v h).1, (anew elem v h).2)
  | .build t parts => match aparts ρ parts.toList with
    | none => none
    | some ps => match abuild P t ps with
      | none => none
      | some v => some (.val v, h)
  | .buildSlice t len parts => match aparts ρ parts.toList with
    | none => none
    | some ps => match abuildSlice P t len ps h with
      | none => none
      | some (v, h1) => some (.val v, h1)
  | .load t a => match ρ a with
    | some (.pointer (some a)) => match aload P t a h with
      | none => none
      | some v => some (.val v, h)
    | _ => none
  | .store t a x => match ρ a with
    | some (.pointer (some a)) => match ρ x with
      | none => none
      | some v => match astore P t a v h with
        | none => none
        | some h1 => some (.val undef, h1)
    | _ => none
  | .nilCheck x => match ρ x with
    | none => none
    | some v => match anilCheck v with
      | none => none
      | some r => some (.val r, h)
  | .binOp op t x y _ => match ρ x with
    | none => none
    | some a => match ρ y with
      | none => none
      | some b => match abin P op t x y a b h with
        | none => none
        | some v => some (.val v, h)
  | .unOp op _ x => match ρ x with
    | none => none
    | some v => match aunary P op v with
      | none => none
      | some r => some (.val r, h)
  | .convert s d x => match ρ x with
    | none => none
    | some v => match aconvert P s d v with
      | none => none
      | some r => some (.val r, h)
  | .sliceToArrayPointer t x => match ρ x with
    | none => none
    | some v => match as2a P t v with
      | none => none
      | some r => some (.val r, h)
  | .makeInterface t x => match ρ x with
    | none => none
    | some v => match amkIface P t v with
      | none => none
      | some r => some (.val r, h)
  | .makeFunc fn first captured => if isYield fn = true then none else match avals ρ first.toList with
    | none => none
    | some p => match avals ρ captured.toList with
      | none => none
      | some c => some (.val (.func fn p.toArray c.toArray), h)
  | .makeMap _ r => match r with
    | none => some (.val (.map (some h.next)), h.new (.map [] 0))
    | some _ => none
  | .makeSlice t l c => match ρ l with
    | none => none
    | some l => match ρ c with
      | none => none
      | some c => match amakeSlice P t l c h with
        | none => none
        | some (v, h1) => some (.val v, h1)
  | .slice t x lo hi mx => match ρ x with
    | none => none
    | some v => match aopt ρ lo with
      | none => none
      | some lo => match aopt ρ hi with
        | none => none
        | some hi => match aopt ρ mx with
          | none => none
          | some mx => match asliceAt P t v lo hi mx h with
            | none => none
            | some r => some (.val r, h)
  | .fieldAddr s x f => match ρ x with
    | none => none
    | some v => match afieldAt P s v f with
      | none => none
      | some r => some (.val r, h)
  | .field t x f => match ρ x with
    | none => none
    | some v => match afield P t v f with
      | none => none
      | some r => some (.val r, h)
  | .indexAddr t x i => match ρ x with
    | none => none
    | some v => match ρ i with
      | some (.int k n) => match aindexAt P t v (.int k n) with
        | none => none
        | some r => some (.val r, h)
      | _ => none
  | .index t x i => match ρ x with
    | none => none
    | some v => match ρ i with
      | some (.int k n) => match aindex P t v (.int k n) with
        | none => none
        | some r => some (.val r, h)
      | _ => none
  | .lookup t m k ok => match ρ m with
    | none => none
    | some m => match ρ k with
      | none => none
      | some k => match alookup P t m k ok h with
        | none => none
        | some r => some (.val r, h)
  | .mapUpdate t m k v => match ρ m with
    | none => none
    | some m => match ρ k with
      | none => none
      | some k => match ρ v with
        | none => none
        | some v => match amapUpdate P t m k v h with
          | none => none
          | some h1 => some (.val undef, h1)
  | .typeAssert x _ asserted ok => match ρ x with
    | none => none
    | some v => match atypeAssert P v asserted ok with
      | none => none
      | some r => some (.val r, h)
  | .extract t i => match ρ t with
    | none => none
    | some v => match aextract v i with
      | none => none
      | some r => some (.val r, h)
  | .call c => acall P X c ρ h
  | _ => none

theorem parts_arr (ρ' : Operand → Value) (ps : Array (Nat × Operand)) : (ps.map fun (i, x) => (i, ρ' x)) = (ps.toList.map fun (i, x) => (i, ρ' x)).toArray := by
  rw [← Array.toList_map, Array.toArray_toList]
theorem map_arr (ρ' : Operand → Value) (ps : Array Operand) : VRs φ [] [] → ps.map ρ' = (ps.toList.map ρ').toArray := fun _ => by
  rw [← Array.toList_map, Array.toArray_toList]

set_option maxHeartbeats 1000000 in
theorem aexec_ok {X : Ext} (hX : ExtOk P W K X) (hN : NamesOk P) {o : Oper} {ρ : Env} {ρ' : Operand → Value} {an : AN} (R : Rel P W K J φ h w) (hρ : ∀ x v, ρ x = some v → VR φ v (ρ' x))
    (e : aexec P X o.op ρ h = some (an, h')) : Met P W K J φ an h' ((execOp ρ' o).run P w) := by
  obtain ⟨dst, op, ty, pos, after, guard⟩ := o
  cases op <;> simp only [aexec] at e
  case move x =>
    split at e
    · cases e
    rename_i v hv
    cases e
    exact .value R rfl (hρ _ _ hv)
  case assign x =>
    split at e
    · cases e
    rename_i v hv
    cases e
    exact .value R rfl (hρ _ _ hv)
  case pick c a b =>
    split at e
    · rename_i hc
      have hc' := (hρ _ _ hc).flat_inv rfl
      split at e
      · cases e
      rename_i v hv
      cases e
      exact .value R (by simp only [execOp, hc', asBool, Sem.run_bind, Sem.run_pure, Result.andThen_ok, if_true]) (hρ _ _ hv)
    · rename_i hc
      have hc' := (hρ _ _ hc).flat_inv rfl
      split at e
      · cases e
      rename_i v hv
      cases e
      exact .value R (by simp only [execOp, hc', asBool, Sem.run_bind, Sem.run_pure, Result.andThen_ok, Bool.false_eq_true, if_false]) (hρ _ _ hv)
    · cases e
  case alloc elem =>
    split at e
    · cases e
    rename_i i hi
    split at e
    · cases e
    rename_i z hz
    split at e
    case isFalse => cases e
    rename_i hzf
    cases e
    obtain ⟨ψ, w', a, k1, k2, k3, k4⟩ := anew_ok (t := elem) R (zero_VR hzf)
    refine ⟨ψ, w', k1, k3, _, .inl ?_, k4⟩
    refine run_v ?_
    simp only [Instr.alloc, Sem.run_bind, run_zeroValue w hi hz, Result.andThen_ok, k2, Sem.run_pure]
  case box elem x =>
    split at e
    · cases e
    rename_i v hv
    cases e
    obtain ⟨ψ, w', a, k1, k2, k3, k4⟩ := anew_ok (t := elem) R (hρ _ _ hv)
    refine ⟨ψ, w', k1, k3, _, .inl ?_, k4⟩
    refine run_v ?_
    simp only [Instr.box, Sem.run_bind, k2, Result.andThen_ok, Sem.run_pure]
  case build t parts =>
    split at e
    · cases e
    rename_i ps hps
    split at e
    · cases e
    rename_i v hv
    cases e
    obtain ⟨h1, h2⟩ := aparts_ok hρ _ _ hps
    obtain ⟨v', k1, k2⟩ := abuild_ok w hv h1 h2
    exact .value R (run_v (by rw [parts_arr]; exact k1)) k2
  case buildSlice t len parts =>
    split at e
    · cases e
    rename_i ps hps
    split at e
    · cases e
    rename_i v h1 hv
    cases e
    obtain ⟨g1, g2⟩ := aparts_ok hρ _ _ hps
    obtain ⟨ψ, w', v', k1, k2, k3, k4⟩ := abuildSlice_ok R hv g1 g2
    exact ⟨ψ, w', k1, k3, v', .inl (run_v (by rw [parts_arr]; exact k2)), k4⟩
  case load t a =>
    split at e
    case h_2 => cases e
    rename_i b ha
    obtain ⟨x, hx, hs, hr⟩ := (hρ _ _ ha).ptr_inv
    split at e
    · cases e
    rename_i v hv
    cases e
    obtain ⟨v', k1, k2⟩ := aload_ok R hv hx
    exact .value R (run_v (by simp only [Instr.loadAt, hr, Instr.sureAddr, Sem.run_bind, Sem.run_pure, Result.andThen_ok, k1])) k2
  case store t a x =>
    split at e
    case h_2 => cases e
    rename_i b ha
    obtain ⟨y, hy, hs, hr⟩ := (hρ _ _ ha).ptr_inv
    split at e
    · cases e
    rename_i v hv
    split at e
    · cases e
    rename_i h1 hst
    cases e
    obtain ⟨w', k1, k2⟩ := astore_ok R hst hy (hρ _ _ hv)
    exact ⟨φ, w', φ.le_refl, k2, undef, .inr ⟨run_u (by simp only [Instr.storeAt, hr, Instr.sureAddr, Sem.run_bind, Sem.run_pure, Result.andThen_ok, k1]), rfl⟩, .of_tuples .nil⟩
  case nilCheck x =>
    split at e
    · cases e
    rename_i v hv
    split at e
    · cases e
    rename_i r hr
    cases e
    obtain ⟨r', k1, k2⟩ := anilCheck_ok (dst := dst) (ty := ty) (pos := pos) (after := after) (guard := guard) w hr (hρ _ _ hv)
    exact .value R k1 k2
  case binOp op t x y yt =>
    split at e
    · cases e
    rename_i a ha
    split at e
    · cases e
    rename_i b hb
    split at e
    · cases e
    rename_i v hv
    cases e
    obtain ⟨v', k1, k2⟩ := abin_ok R hv (hρ _ _ ha) (hρ _ _ hb)
    exact .value R (run_v k1) k2
  case unOp op t x =>
    split at e
    · cases e
    rename_i v hv
    split at e
    · cases e
    rename_i r hr
    cases e
    obtain ⟨r', k1, k2⟩ := aunary_ok w hr (hρ _ _ hv)
    exact .value R (run_v k1) k2
  case convert s d x =>
    split at e
    · cases e
    rename_i v hv
    split at e
    · cases e
    rename_i r hr
    cases e
    obtain ⟨r', k1, k2⟩ := aconvert_ok w hr (hρ _ _ hv)
    exact .value R (run_v k1) k2
  case sliceToArrayPointer t x =>
    split at e
    · cases e
    rename_i v hv
    split at e
    · cases e
    rename_i r hr
    cases e
    obtain ⟨r', k1, k2⟩ := as2a_ok w hr (hρ _ _ hv)
    exact .value R (run_v k1) k2
  case makeInterface t x =>
    split at e
    · cases e
    rename_i v hv
    split at e
    · cases e
    rename_i r hr
    cases e
    obtain ⟨r', k1, k2⟩ := amkIface_ok w hr (hρ _ _ hv)
    exact .value R (run_v k1) k2
  case makeFunc fn first captured =>
    split at e
    · cases e
    rename_i hy
    split at e
    · cases e
    rename_i p hp
    split at e
    · cases e
    rename_i c hc
    cases e
    have h1 := avals_ok hρ _ _ hp
    have h2 := avals_ok hρ _ _ hc
    refine .value R (run_v (v := .func fn (first.map ρ') (captured.map ρ')) rfl) ?_
    refine .func (fun l hl => hy (by rw [hl]; rfl)) ?_ ?_ ?_ ?_
    · simpa using h1.length
    · intro i g1 g2
      obtain ⟨v', k1, k2⟩ := h1.get i p[i] (by simp at g1; simp [g1])
      simp at g2
      simp [g2] at k1
      simpa [k1] using k2
    · simpa using h2.length
    · intro i g1 g2
      obtain ⟨v', k1, k2⟩ := h2.get i c[i] (by simp at g1; simp [g1])
      simp at g2
      simp [g2] at k1
      simpa [k1] using k2
  case makeMap t r =>
    split at e
    case h_2 => cases e
    cases e
    obtain ⟨ψ, k1, k2, k3⟩ := R.new (o := .map [] 0) (O := .map #[] 0) (x := ⟨w.heap.size, 0, 0, 0, false⟩) rfl (fun h => by cases h) (fun ψ w' _ hw => ⟨#[], hw, .nil⟩)
    refine ⟨ψ, _, k1, k3, .map (some w.heap.size), .inl (run_v ?_), .map (x := ⟨w.heap.size, 0, 0, 0, false⟩) k2⟩
    simp only [Instr.makeMap, Option.map_none, Sem.run_bind, run_newObj, Result.andThen_ok, Sem.run_pure]
    rfl
  case makeSlice t l c =>
    split at e
    · cases e
    rename_i l' hl
    split at e
    · cases e
    rename_i c' hc
    split at e
    · cases e
    rename_i v h1 hv
    cases e
    obtain ⟨ψ, w', v', k1, k2, k3, k4⟩ := amakeSlice_ok R hv (hρ _ _ hl) (hρ _ _ hc)
    exact ⟨ψ, w', k1, k3, v', .inl (run_v k2), k4⟩
  case slice t x lo hi mx =>
    split at e
    · cases e
    rename_i v hv
    split at e
    · cases e
    rename_i lo' hlo
    split at e
    · cases e
    rename_i hi' hhi
    split at e
    · cases e
    rename_i mx' hmx
    split at e
    · cases e
    rename_i r hr
    cases e
    obtain ⟨r', k1, k2⟩ := asliceAt_ok R hr (hρ _ _ hv)
    exact .value R (run_v (by rw [aopt_ok hρ hlo, aopt_ok hρ hhi, aopt_ok hρ hmx]; exact k1)) k2
  case fieldAddr s x f =>
    split at e
    · cases e
    rename_i v hv
    split at e
    · cases e
    rename_i r hr
    cases e
    obtain ⟨r', k1, k2⟩ := afieldAt_ok w hr (hρ _ _ hv)
    exact .value R (run_v k1) k2
  case field t x f =>
    split at e
    · cases e
    rename_i v hv
    split at e
    · cases e
    rename_i r hr
    cases e
    obtain ⟨r', k1, k2⟩ := afield_ok w hr (hρ _ _ hv)
    exact .value R (run_v k1) k2
  case indexAddr t x i =>
    split at e
    · cases e
    rename_i v hv
    split at e
    case h_2 => cases e
    rename_i k n hi
    split at e
    · cases e
    rename_i r hr
    cases e
    obtain ⟨r', k1, k2⟩ := aindexAt_ok w hr (hρ _ _ hv)
    exact .value R (run_v (by rw [(hρ _ _ hi).flat_inv rfl]; exact k1)) k2
  case index t x i =>
    split at e
    · cases e
    rename_i v hv
    split at e
    case h_2 => cases e
    rename_i k n hi
    split at e
    · cases e
    rename_i r hr
    cases e
    obtain ⟨r', k1, k2⟩ := aindex_ok w hr (hρ _ _ hv)
    exact .value R (run_v (by rw [(hρ _ _ hi).flat_inv rfl]; exact k1)) k2
  case lookup t m k ok =>
    split at e
    · cases e
    rename_i m' hm
    split at e
    · cases e
    rename_i k' hk
    split at e
    · cases e
    rename_i r hr
    cases e
    obtain ⟨r', k1, k2⟩ := alookup_ok R hr (hρ _ _ hm) (hρ _ _ hk)
    exact .value R (run_v k1) k2
  case mapUpdate t m k v =>
    split at e
    · cases e
    rename_i m' hm
    split at e
    · cases e
    rename_i k' hk
    split at e
    · cases e
    rename_i v' hv
    split at e
    · cases e
    rename_i h1 hst
    cases e
    obtain ⟨w', k1, k2⟩ := amapUpdate_ok R hst (hρ _ _ hm) (hρ _ _ hk) (hρ _ _ hv)
    exact ⟨φ, w', φ.le_refl, k2, undef, .inr ⟨run_u k1, rfl⟩, .of_tuples .nil⟩
  case typeAssert x xt asserted ok =>
    split at e
    · cases e
    rename_i v hv
    split at e
    · cases e
    rename_i r hr
    cases e
    obtain ⟨r', k1, k2⟩ := atypeAssert_ok (xt := xt) w hr (hρ _ _ hv)
    exact .value R (run_v k1) k2
  case extract t i =>
    split at e
    · cases e
    rename_i v hv
    split at e
    · cases e
    rename_i r hr
    cases e
    obtain ⟨r', k1, k2⟩ := aextract_ok w hr (hρ _ _ hv)
    exact .value R (run_v k1) k2
  case call c => exact acall_ok hX hN R hρ e
  all_goals cases e
end
end Go.Ab
