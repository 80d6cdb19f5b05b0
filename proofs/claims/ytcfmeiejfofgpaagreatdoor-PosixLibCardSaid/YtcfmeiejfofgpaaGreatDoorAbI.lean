/- The abstract evaluator: each operation, and that the model's does what it tells. -/
import Derived.Test.YtcfmeiejfofgpaaGreatDoorAbH
namespace Go.Ab
open Go.RowKit
set_option linter.unusedVariables false
set_option linter.unusedSectionVars false

section
variable [Sg] {P : Program} {W : World} {K : Nat} {J : Nat → Option Obj} {φ : Map} {h h' : AHeap} {w : World}

def aconvert (P : Program) (src dst : TypeId) (v : Value) : Option Value :=
  if clean v = true then match pureRun P (convert src dst v) with
    | none => none
    | some r => if clean r = true then some r else none
  else none
theorem aconvert_ok {src dst : TypeId} {v v' r : Value} (w : World) (e : aconvert P src dst v = some r) (hv : VR φ v v') : ∃ r', (convert src dst v').run P w = .ok r' w ∧ VR φ r r' := by
  unfold aconvert at e
  split at e
  case isFalse => cases e
  rename_i hc
  have := clean_eq hc hv
  subst this
  split at e
  · cases e
  rename_i u hu
  split at e
  case isFalse => cases e
  rename_i hcu
  cases e
  exact ⟨_, pureRun_run P w _ _ hu, clean_self hcu⟩

def aunary (P : Program) (op : UnOp) (v : Value) : Option Value :=
  if clean v = true then match pureRun P (Op.unary op v) with
    | none => none
    | some r => if clean r = true then some r else none
  else none
theorem aunary_ok {op : UnOp} {v v' r : Value} (w : World) (e : aunary P op v = some r) (hv : VR φ v v') : ∃ r', (Op.unary op v').run P w = .ok r' w ∧ VR φ r r' := by
  unfold aunary at e
  split at e
  case isFalse => cases e
  rename_i hc
  have := clean_eq hc hv
  subst this
  split at e
  · cases e
  rename_i u hu
  split at e
  case isFalse => cases e
  rename_i hcu
  cases e
  exact ⟨_, pureRun_run P w _ _ hu, clean_self hcu⟩

def amkIface (P : Program) (t : TypeId) (v : Value) : Option Value :=
  match P.underlying t with
  | none => none
  | some (.interface _) => none
  | some _ => some (.iface t v)
theorem amkIface_ok {t : TypeId} {v v' r : Value} (w : World) (e : amkIface P t v = some r) (hv : VR φ v v') : ∃ r', (Instr.makeInterface t v').run P w = .ok r' w ∧ VR φ r r' := by
  unfold amkIface at e
  split at e
  · cases e
  · cases e
  · rename_i d hne hd
    cases e
    refine ⟨.iface t v', ?_, .iface hv⟩
    simp only [Instr.makeInterface, Sem.run_bind, run_underlying w hd, Result.andThen_ok]
    cases d <;> first | rfl | (exact absurd rfl (hne _))

def isYield : Fn → Bool
  | .yield _ => true
  | _ => false

def anilCheck (v : Value) : Option Value :=
  match v with
  | .pointer (some a) => some v
  | .iface _ _ => some v
  | .func (.func f) p c => some v
  | _ => none
theorem anilCheck_ok {x : Operand} {ρ' : Operand → Value} {dst : Option Tmp} {ty : TypeId} {pos : String} {after : Array Edge} {guard : Option (Nat × Bool)} {v r : Value} (w : World) (e : anilCheck v = some r) (hv : VR φ v (ρ' x)) :
    ∃ r', (execOp ρ' ⟨dst, .nilCheck x, ty, pos, after, guard⟩).run P w = .ok (.value r') w ∧ VR φ r r' := by
  unfold anilCheck at e
  simp only [execOp]
  generalize ρ' x = u at hv ⊢
  split at e
  · cases e
    obtain ⟨y, hy, hs, hr⟩ := hv.ptr_inv
    subst hr
    exact ⟨_, rfl, hv⟩
  · cases e
    obtain ⟨u, hr, _⟩ := hv.iface_inv
    subst hr
    exact ⟨_, rfl, hv⟩
  · cases e
    obtain ⟨p', c', hr, _⟩ := hv.func_inv
    subst hr
    exact ⟨_, rfl, hv⟩
  · cases e

def as2a (P : Program) (t : TypeId) (v : Value) : Option Value :=
  match v with
  | .slice (some a) len _ => match P.underlying t with
    | some (.array n _) => if n ≤ len ∧ 0 < n then some (.pointer (some ⟨a.block, a.off, none⟩)) else none
    | _ => none
  | _ => none
theorem as2a_ok {t : TypeId} {v v' r : Value} (w : World) (e : as2a P t v = some r) (hv : VR φ v v') : ∃ r', (Instr.arrayAt t v').run P w = .ok r' w ∧ VR φ r r' := by
  unfold as2a at e
  split at e
  case h_2 => cases e
  rename_i a len cap
  obtain ⟨x, cap', o, hx, hs, h1, h2, h3, h4, rfl⟩ := hv.slice_inv
  split at e
  case h_2 => cases e
  rename_i n el hu
  split at e
  case isFalse => cases e
  rename_i hn
  cases e
  have ho : o = a.off + x.d := h4.resolve_right (by omega)
  subst ho
  refine ⟨.pointer (some ⟨x.b, a.off + x.d, none⟩), ?_, .ptr (a := ⟨a.block, a.off, none⟩) hx rfl⟩
  simp only [Instr.arrayAt, Sem.run_bind, run_underlying w hu, Result.andThen_ok]
  rw [if_neg (by omega)]
  rfl

/-- Are all the methods there? -/
def hasAll (want : Array (String × TypeId)) (got : Array Method) : Bool := want.toList.all fun p => got.toList.any fun m => m.name == p.1 && m.sig == p.2
theorem least_some {l : List String} (h : l ≠ []) : ∃ m, Instr.least l = some m := by
  cases l with
  | nil => exact absurd rfl h
  | cons => exact ⟨_, rfl⟩
theorem missing_of {want : Array (String × TypeId)} {got : Array Method} (b : Bool) (h : hasAll want got = b) :
    (b = true → Instr.missingMethod want got = none) ∧ (b = false → ∃ m, Instr.missingMethod want got = some m) := by
  have hf : (want.toList.filter fun (p : String × TypeId) => !got.any fun m => m.name == p.1 && m.sig == p.2) = [] ↔ hasAll want got = true := by
    rw [List.filter_eq_nil_iff, hasAll, List.all_eq_true]
    refine forall_congr' fun p => forall_congr' fun _ => ?_
    rw [← Array.any_toList]
    simp
  constructor
  · rintro rfl
    have h1 := hf.2 h
    show (Instr.least _ <|> Instr.least _ : Option String) = none
    simp only [h1, List.map_nil]
    rfl
  · rintro rfl
    have h1 : (want.toList.filter fun (p : String × TypeId) => !got.any fun m => m.name == p.1 && m.sig == p.2) ≠ [] := fun hn => by rw [hf.1 hn] at h; cases h
    show ∃ m, (Instr.least (List.partition (·.contains '.') (List.map (·.1) (want.toList.filter fun (p : String × TypeId) => !got.any fun m => m.name == p.1 && m.sig == p.2))).2 <|> Instr.least (List.map _ (List.partition (·.contains '.') (List.map (·.1) (want.toList.filter fun (p : String × TypeId) => !got.any fun m => m.name == p.1 && m.sig == p.2))).1) : Option String) = some m
    revert h1
    generalize (want.toList.filter fun (p : String × TypeId) => !got.any fun m => m.name == p.1 && m.sig == p.2) = l
    intro h1
    rw [List.partition_eq_filter_filter]
    cases l with
    | nil => exact absurd rfl h1
    | cons p r =>
      have hp : p.1 ∈ List.map (·.1) (p :: r) := List.mem_map_of_mem (f := fun x : String × TypeId => x.1) (List.mem_cons_self ..)
      by_cases hc : p.1.contains '.' = true
      · obtain ⟨m, hm⟩ := least_some (l := List.map (fun id : String => (id.splitOn ".").getLastD id) (List.filter (·.contains '.') (List.map (·.1) (p :: r)))) (List.ne_nil_of_mem (List.mem_map_of_mem (List.mem_filter.2 ⟨hp, hc⟩)))
        cases hl : Instr.least (List.filter (not ∘ fun x => x.contains '.') (List.map (·.1) (p :: r))) with
        | none => exact ⟨m, by simp only [hm]; rfl⟩
        | some x => exact ⟨x, rfl⟩
      · obtain ⟨m, hm⟩ := least_some (l := List.filter (not ∘ fun x => x.contains '.') (List.map (·.1) (p :: r))) (List.ne_nil_of_mem (List.mem_filter.2 ⟨hp, by simp only [Function.comp, hc]; rfl⟩))
        exact ⟨m, by simp only [hm]; rfl⟩

def atypeAssert (P : Program) (v : Value) (asserted : TypeId) (ok : Bool) : Option Value :=
  match P.underlying asserted, v with
  | some (.interface want), .iface t u => match P.info? t with
    | none => none
    | some i => match hasAll want i.methods with
      | true => some (if ok then .tuple #[.iface t u, .bool true] else .iface t u)
      | false => match P.info? asserted with
        | none => none
        | some j => match j.zero with
          | some .nilIface => if ok then some (.tuple #[.nilIface, .bool false]) else none
          | _ => none
  | some (.interface _), .nilIface => match P.info? asserted with
    | none => none
    | some j => match j.zero with
      | some .nilIface => if ok then some (.tuple #[.nilIface, .bool false]) else none
      | _ => none
  | _, _ => none
theorem atypeAssert_ok {v v' r : Value} {xt asserted : TypeId} {ok : Bool} (w : World) (e : atypeAssert P v asserted ok = some r) (hv : VR φ v v') :
    ∃ r', (Instr.typeAssert v' xt asserted ok).run P w = .ok r' w ∧ VR φ r r' := by
  unfold atypeAssert at e
  split at e
  · rename_i want t u hu
    obtain ⟨u', rfl, hu'⟩ := hv.iface_inv
    split at e
    · cases e
    rename_i i hi
    split at e
    · rename_i hm
      have hm := (missing_of _ hm).1 rfl
      cases e
      refine ⟨if ok = true then .tuple #[.iface t u', .bool true] else .iface t u', ?_, ?_⟩
      · simp only [Instr.typeAssert, Sem.run_bind, run_underlying w hu, Result.andThen_ok, run_typeInfo w hi, hm, Sem.run_pure]
      · split
        · exact pair_VR (.iface hu') true
        · exact .iface hu'
    · rename_i hm
      obtain ⟨m, hm⟩ := (missing_of _ hm).2 rfl
      split at e
      · cases e
      rename_i j hj
      split at e
      case h_2 => cases e
      rename_i hz
      split at e
      case isFalse => cases e
      rename_i hok
      cases e
      refine ⟨.tuple #[.nilIface, .bool false], ?_, pair_VR (.flat rfl) false⟩
      simp only [Instr.typeAssert, Sem.run_bind, run_underlying w hu, Result.andThen_ok, run_typeInfo w hi, hm]
      rw [if_pos hok]
      simp only [Sem.run_bind, run_zeroValue w hj hz, Result.andThen_ok, Sem.run_pure]
  · rename_i want hu
    have := hv.flat_inv rfl
    subst this
    split at e
    · cases e
    rename_i j hj
    split at e
    case h_2 => cases e
    rename_i hz
    split at e
    case isFalse => cases e
    rename_i hok
    cases e
    refine ⟨.tuple #[.nilIface, .bool false], ?_, pair_VR (.flat rfl) false⟩
    simp only [Instr.typeAssert, Sem.run_bind, run_underlying w hu, Result.andThen_ok]
    rw [if_pos hok]
    simp only [Sem.run_bind, run_zeroValue w hj hz, Result.andThen_ok, Sem.run_pure]
  · cases e

def alen (P : Program) (t : TypeId) (v : Value) : Option Value :=
  match P.underlying t, v with
  | some .string, .string s => some (.int .i64 s.size)
  | some (.slice _), .slice _ n _ => some (.int .i64 n)
  | _, _ => none
theorem alen_ok {ts : Array TypeId} {t ty : TypeId} {v v' r : Value} (w : World) (ht : ts[0]? = some t) (e : alen P t v = some r) (hv : VR φ v v') : ∃ r', (Builtin.len_ ts ty #[v']).run P w = .ok r' w ∧ VR φ r r' := by
  unfold alen at e
  split at e
  · rename_i s hu
    have := hv.flat_inv rfl
    subst this
    cases e
    refine ⟨_, ?_, .flat rfl⟩
    simp only [Builtin.len_, ht, List.getElem?_toArray, List.getElem?_cons_zero, Sem.run_bind, run_underlying w hu, Result.andThen_ok, Sem.run_pure, goInt]
  · rename_i a n c hu
    cases e
    have : ∃ a' c', v' = .slice a' n c' := by
      cases a with
      | none => exact ⟨_, _, hv.flat_inv rfl⟩
      | some a => obtain ⟨x, c', o, _, _, _, _, _, _, rfl⟩ := hv.slice_inv; exact ⟨_, _, rfl⟩
    obtain ⟨a', c', rfl⟩ := this
    refine ⟨.int .i64 n, ?_, .flat rfl⟩
    simp only [Builtin.len_, ht, List.getElem?_toArray, List.getElem?_cons_zero, Sem.run_bind, run_underlying w hu, Result.andThen_ok, Sem.run_pure, goInt]
  · cases e

def amm (max : Bool) (vs : List Value) : Option Value :=
  match vs with
  | [.int k a, .int _ b] => some (.int k (if max then (if b > a then b else a) else (if b < a then b else a)))
  | _ => none
theorem amm_ok {m : Bool} {vs vs' : List Value} {r : Value} {ts : Array TypeId} {ty : TypeId} (w : World) (e : amm m vs = some r) (hv : VRs φ vs vs') :
    ∃ r', (if m then Builtin.max_ ts ty vs'.toArray else Builtin.min_ ts ty vs'.toArray).run P w = .ok r' w ∧ VR φ r r' := by
  unfold amm at e
  split at e
  case h_2 => cases e
  rename_i k a k' b
  cases e
  cases hv with
  | cons h1 h2 => cases h2 with
    | cons h3 h4 =>
      cases h4
      have := h1.flat_inv rfl
      subst this
      have := h3.flat_inv rfl
      subst this
      cases m
      · exact ⟨_, rfl, .flat rfl⟩
      · exact ⟨_, rfl, .flat rfl⟩

/-! ### Calls -/
/-- What is told of the calls of functions without a body: what they answer. -/
abbrev Ext := FuncId → List Value → AHeap → Option (Value × AHeap)
def hasBody (P : Program) (f : FuncId) : Bool :=
  match P.funcs[f]? with
  | some fn => fn.body.isSome
  | none => false
def acallFunc (P : Program) (X : Ext) (f : FuncId) (args : List Value) (h : AHeap) : Option (AN × AHeap) :=
  if hasBody P f = true then some (.call f args, h) else match X f args h with
    | none => none
    | some (v, h1) => some (.val v, h1)
/-- The model's calls of functions without a body do what X tells. -/
def ExtOk (P : Program) (W : World) (K : Nat) (X : Ext) : Prop :=
  ∀ f args h v h', X f args h = some (v, h') → hasBody P f = false → ∀ J φ w args', Rel P W K J φ h w → VRs φ args args' →
    ∃ ψ w' v', φ.le ψ ∧ (callFunc f args'.toArray).run P w = .ok (.value v') w' ∧ Rel P W K J ψ h' w' ∧ VR ψ v v'
/-- No function with a body has the one name that the model stands in for. -/
def NamesOk (P : Program) : Prop := ∀ (f : FuncId) (fn : Func), P.funcs[f]? = some fn → fn.body.isSome = true → fn.name ≠ "runtime.NumGoroutine"

theorem acallFunc_ok {X : Ext} (hX : ExtOk P W K X) (hN : NamesOk P) {f : FuncId} {args args' : List Value} {an : AN} (R : Rel P W K J φ h w) (e : acallFunc P X f args h = some (an, h')) (ha : VRs φ args args') :
    Met P W K J φ an h' ((callFunc f args'.toArray).run P w) := by
  unfold acallFunc at e
  split at e
  · rename_i hb
    cases e
    refine ⟨φ, w, φ.le_refl, R, args'.toArray, ?_, by simpa using ha⟩
    unfold hasBody at hb
    split at hb
    · rename_i fn hfn
      have hne := hN f fn hfn hb
      have hnone : fn.body.isNone = false := by cases hh : fn.body <;> simp_all
      simp only [callFunc, Sem.run_bind, run_program, Result.andThen_ok, hfn]
      rw [if_neg (by simpa using hne), hnone]
      rfl
    · cases hb
  · rename_i hb
    split at e
    · cases e
    · rename_i v h1 hx
      cases e
      obtain ⟨ψ, w', v', k1, k2, k3, k4⟩ := hX f args h v h' hx (by simpa using hb) J φ w args' R ha
      exact ⟨ψ, w', k1, k3, v', .inl k2, k4⟩

def afollow (P : Program) : List FieldStep → TypeId → Value → Option (TypeId × Value)
  | [], t, v => some (t, v)
  | s :: rest, _, v => if s.deref = true then none else match P.underlying s.struct, v with
    | some (.struct fields), .agg cs => match fields[s.index]? with
      | some f => match apart P f.type cs f.offset with
        | some u => afollow P rest f.type u
        | none => none
      | none => none
    | _, _ => none
theorem afollow_ok (w : World) : ∀ (l : List FieldStep) (t : TypeId) (v v' : Value) (xt : TypeId) (x : Value), afollow P l t v = some (xt, x) → VR φ v v' → ∃ x', (follow l t (.val v')).run P w = .ok (xt, .val x') w ∧ VR φ x x' := by
  intro l
  induction l with
  | nil => intro t v v' xt x e hv; cases e; exact ⟨v', by simp only [follow, Sem.run_pure], hv⟩
  | cons s rest ih =>
    intro t v v' xt x e hv
    simp only [afollow] at e
    split at e
    · cases e
    rename_i hd
    split at e
    case h_2 => cases e
    rename_i fields cs hu
    obtain ⟨cs', rfl, hcs⟩ := hv.agg_inv
    split at e
    case h_2 => cases e
    rename_i f hf
    split at e
    case h_2 => cases e
    rename_i u hp
    obtain ⟨u', h1, h2⟩ := apart_ok w hp hcs
    obtain ⟨x', h3, h4⟩ := ih f.type u u' xt x e h2
    refine ⟨x', ?_, h4⟩
    have hd' : s.deref = false := by simpa using hd
    simp only [follow, Sem.run_bind, run_underlying w hu, Result.andThen_ok, hf, hd', h1, h3, Bool.false_eq_true, if_false]

def amethod (P : Program) (t : TypeId) (v : Value) (name : String) : Option (FuncId × Value) :=
  match P.info? t with
  | none => none
  | some i => match i.methods.find? (·.name == name) with
    | none => none
    | some m => match afollow P m.path.toList t v with
      | none => none
      | some (xt, x) => match m.func, P.underlying xt with
        | some (f, true), some (.pointer _) => some (f, x)
        | some (f, false), some d => match d with
          | .pointer _ => none
          | _ => some (f, x)
        | _, _ => none
theorem amethod_ok {t : TypeId} {v v' r : Value} {name : String} {f : FuncId} (n : Nat) (w : World) (e : amethod P t v name = some (f, r)) (hv : VR φ v v') :
    ∃ r', (Go.method (n + 1) t v' name).run P w = .ok (f, r') w ∧ VR φ r r' := by
  unfold amethod at e
  split at e
  · cases e
  rename_i i hi
  split at e
  · cases e
  rename_i m hm
  split at e
  · cases e
  rename_i xt x hx
  obtain ⟨x', h1, h2⟩ := afollow_ok (P := P) w _ _ _ _ _ _ hx hv
  split at e
  · rename_i g el hf hu
    cases e
    refine ⟨x', ?_, h2⟩
    simp only [Go.method, Sem.run_bind, run_typeInfo w hi, Result.andThen_ok, hm, h1, Sem.run_pure, hf, receiverAt, run_underlying w hu, Place.get]
  · rename_i g d hf hu
    split at e
    · cases e
    rename_i hne
    cases e
    refine ⟨x', ?_, h2⟩
    simp only [Go.method, Sem.run_bind, run_typeInfo w hi, Result.andThen_ok, hm, h1, Sem.run_pure, hf, receiverAt, run_underlying w hu, Place.get]
  · cases e

def acallMethod (P : Program) (X : Ext) (recv : Value) (name : String) (args : List Value) (h : AHeap) : Option (AN × AHeap) :=
  match recv with
  | .iface t v => match amethod P t v name with
    | none => none
    | some (f, r) => acallFunc P X f (r :: args) h
  | _ => none
theorem acallMethod_ok {X : Ext} (hX : ExtOk P W K X) (hN : NamesOk P) {recv recv' : Value} {name : String} {args args' : List Value} {an : AN} (R : Rel P W K J φ h w)
    (e : acallMethod P X recv name args h = some (an, h')) (hr : VR φ recv recv') (ha : VRs φ args args') : Met P W K J φ an h' ((callMethod recv' name args'.toArray).run P w) := by
  unfold acallMethod at e
  split at e
  case h_2 => cases e
  rename_i t v
  obtain ⟨u, rfl, hu⟩ := hr.iface_inv
  split at e
  · cases e
  rename_i f r hm
  have hd0 : 0 < Made.depth := by decide
  obtain ⟨n, hn⟩ : ∃ n, P.types.size + Made.depth = n + 1 := ⟨P.types.size + Made.depth - 1, by omega⟩
  obtain ⟨r', h1, h2⟩ := amethod_ok (P := P) n w hm hu
  have := acallFunc_ok hX hN R e (VRs.cons h2 ha)
  simp only [callMethod, Sem.run_bind, run_program, Result.andThen_ok, hn, h1]
  have e2 : #[r'] ++ args'.toArray = (r' :: args').toArray := by simp
  rw [e2]
  exact this
end
end Go.Ab
