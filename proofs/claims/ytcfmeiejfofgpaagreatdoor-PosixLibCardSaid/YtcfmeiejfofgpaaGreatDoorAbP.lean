/- The abstract evaluator: the entries of internal/reflectlite that errors.Is and errors.As come to. -/
import Derived.Test.YtcfmeiejfofgpaaGreatDoorAbO
import Derived.Lib.Bytealg
import Derived.Laws.Externs
namespace Go.Ab
open Go.RowKit Go.Extern
set_option linter.unusedVariables false
set_option linter.unusedSectionVars false

section
variable [Sg] {P : Program} {W : World} {K : Nat} {J : Nat → Option Obj} {φ : Map} {h h' : AHeap} {w : World}

/-- Values whose addresses stand for themselves. -/
def kclN (K : Nat) : Nat → Value → Bool
  | _, .bool _ | _, .int _ _ | _, .string _ | _, .nilFunc | _, .nilIface => true
  | _, .pointer none | _, .map none | _, .chan none | _, .slice none _ _ => true
  | _, .pointer (some a) => decide (a.block < K)
  | n + 1, .iface _ v => kclN K n v
  | n + 1, .agg c => c.toList.all (kclN K n)
  | n + 1, .tuple c => c.toList.all (kclN K n)
  | _, _ => false
abbrev kcl (K : Nat) (v : Value) : Bool := kclN K 6 v

theorem kclN_eq' (self : ∀ B, B < K → ∃ cs es, φ B = some ⟨B, 0, es, cs, false⟩) : ∀ (n : Nat) (v v' : Value), kclN K n v = true → VR φ v v' → v' = v := by
  have ptr : ∀ (a : Addr) (v' : Value), a.block < K → VR φ (.pointer (some a)) v' → v' = .pointer (some a) := by
    intro a v' ha r
    obtain ⟨x, hx, hs, rfl⟩ := r.ptr_inv
    obtain ⟨cs, es, hself⟩ := self _ ha
    rw [hx] at hself; cases hself
    obtain ⟨b, o, s⟩ := a
    simp only at hs
    subst hs
    rfl
  intro n
  induction n with
  | zero =>
    intro v v' h r
    cases v with
    | pointer o => cases o with | none => exact r.flat_inv rfl | some a => exact ptr a v' (by simpa [kclN] using h) r
    | _ => first | (exact r.flat_inv rfl) | (simp [kclN] at h; done) | (rename_i o; cases o <;> first | (exact r.flat_inv rfl) | (simp [kclN] at h; done)) | (rename_i o _ _; cases o <;> first | (exact r.flat_inv rfl) | (simp [kclN] at h; done))
  | succ n ih =>
    have arr : ∀ l l' : List Value, l.all (kclN K n) = true → VRs φ l l' → l' = l := by
      intro l l' h r
      induction r with
      | nil => rfl
      | cons h1 _ ih2 =>
        simp only [List.all_cons, Bool.and_eq_true] at h
        rw [ih _ _ h.1 h1, ih2 h.2]
    intro v v' h r
    cases v with
    | pointer o => cases o with | none => exact r.flat_inv rfl | some a => exact ptr a v' (by simpa [kclN] using h) r
    | iface t v => simp only [kclN] at h; obtain ⟨u, rfl, hu⟩ := r.iface_inv; rw [ih _ _ h hu]
    | agg c => simp only [kclN] at h; obtain ⟨u, rfl, hu⟩ := r.agg_inv; have := arr _ _ h hu; rw [Array.toList_inj.1 this]
    | tuple c => simp only [kclN] at h; obtain ⟨u, rfl, hu⟩ := r.tuple_inv; have := arr _ _ h hu; rw [Array.toList_inj.1 this]
    | _ => first | (exact r.flat_inv rfl) | (simp [kclN] at h; done) | (rename_i o; cases o <;> first | (exact r.flat_inv rfl) | (simp [kclN] at h; done)) | (rename_i o _ _; cases o <;> first | (exact r.flat_inv rfl) | (simp [kclN] at h; done))
theorem kclN_eq (R : Rel P W K J φ h w) (n : Nat) (v v' : Value) (hv : kclN K n v = true) (r : VR φ v v') : v' = v := kclN_eq' R.self n v v' hv r
/-- The same, with no address inside a cell. -/
def kspN : Nat → Value → Bool
  | _, .pointer (some a) => a.spot.isNone
  | n + 1, .iface _ v => kspN n v
  | n + 1, .agg c => c.toList.all (kspN n)
  | n + 1, .tuple c => c.toList.all (kspN n)
  | _, _ => true
theorem kclN_VR (self : ∀ B, B < K → ∃ cs es, φ B = some ⟨B, 0, es, cs, false⟩) : ∀ (n : Nat) (v : Value), kclN K n v = true → kspN n v = true → VR φ v v := by
  have ptr : ∀ (a : Addr), a.block < K → a.spot.isNone = true → VR φ (.pointer (some a)) (.pointer (some a)) := by
    intro a ha hs
    obtain ⟨cs, es, hself⟩ := self _ ha
    have hs' : a.spot = none := by simpa using hs
    have := VR.ptr (a := a) hself hs'
    obtain ⟨b, o, s⟩ := a
    simp only at hs'
    subst hs'
    exact this
  intro n
  induction n with
  | zero =>
    intro v h hs
    cases v with
    | pointer o => cases o with | none => exact .flat rfl | some a => exact ptr a (by simpa [kclN] using h) (by simpa [kspN] using hs)
    | _ => first | (exact .flat rfl) | (simp [kclN] at h; done) | (rename_i o; cases o <;> first | (exact .flat rfl) | (simp [kclN] at h; done)) | (rename_i o _ _; cases o <;> first | (exact .flat rfl) | (simp [kclN] at h; done))
  | succ n ih =>
    have arr : ∀ l : List Value, l.all (kclN K n) = true → l.all (kspN n) = true → VRs φ l l := by
      intro l h hs
      induction l with
      | nil => exact .nil
      | cons v l ih2 =>
        simp only [List.all_cons, Bool.and_eq_true] at h hs
        exact .cons (ih v h.1 hs.1) (ih2 h.2 hs.2)
    intro v h hs
    cases v with
    | pointer o => cases o with | none => exact .flat rfl | some a => exact ptr a (by simpa [kclN] using h) (by simpa [kspN] using hs)
    | iface t v => simp only [kclN] at h; simp only [kspN] at hs; exact .iface (ih v h hs)
    | agg c => simp only [kclN] at h; simp only [kspN] at hs; exact .of_aggs (arr _ h hs)
    | tuple c => simp only [kclN] at h; simp only [kspN] at hs; exact .of_tuples (arr _ h hs)
    | _ => first | (exact .flat rfl) | (simp [kclN] at h; done) | (rename_i o; cases o <;> first | (exact .flat rfl) | (simp [kclN] at h; done)) | (rename_i o _ _; cases o <;> first | (exact .flat rfl) | (simp [kclN] at h; done))

def kok (K : Nat) (v : Value) : Bool := kclN K 6 v && kspN 6 v
theorem kok_VR' (self : ∀ B, B < K → ∃ cs es, φ B = some ⟨B, 0, es, cs, false⟩) {v : Value} (hv : kok K v = true) : VR φ v v := by
  simp only [kok, Bool.and_eq_true] at hv; exact kclN_VR self 6 v hv.1 hv.2
theorem kok_VR (R : Rel P W K J φ h w) {v : Value} (hv : kok K v = true) : VR φ v v := kok_VR' R.self hv
theorem kok_eq (R : Rel P W K J φ h w) {v v' : Value} (hv : kok K v = true) (r : VR φ v v') : v' = v := by
  simp only [kok, Bool.and_eq_true] at hv; exact kclN_eq R 6 v v' hv.1 r

inductive XF where
  | valueOf | vtype | isNil | velem | vset | typeOf
  | pure (e : Array Value → Sem Value)
  | fidx | fcnt

def XF.row : XF → Array Value → Sem Value
  | .valueOf => fun args => ReflectliteValue.unpack (args.getD 0 (.tuple #[]))
  | .vtype => ReflectliteValue.methodAny (ReflectliteValue.valueError "reflectlite.Value.Type" 0) fun t _ _ _ => ReflectliteType.toType t
  | .isNil => ReflectliteValue.method (ReflectliteValue.valueError "reflectlite.Value.IsNil" 0) ReflectliteValue.isNil
  | .velem => ReflectliteValue.method (ReflectliteValue.valueError "reflectlite.Value.Elem" 0) ReflectliteValue.elem
  | .vset => ReflectliteValue.set
  | .typeOf => ReflectliteType.typeOf
  | .pure e => e
  | .fidx => BytealgIndexByte.indexByte
  | .fcnt => BytealgCount.count

/-- Where a byte lies first in a string; how often. -/
noncomputable def posV (c : Nat) (l : List UInt8) (i : Nat) : Value := @List.rec UInt8 (fun _ => Nat → Value) (fun _ => .int .i64 (-1)) (fun a _ ih i => cond (Nat.beq a.toNat c) (.int .i64 (.ofNat i)) (ih (Nat.succ i))) l i
noncomputable def cntV (c : Nat) (l : List UInt8) (n : Nat) : Value := @List.rec UInt8 (fun _ => Nat → Value) (fun n => .int .i64 (.ofNat n)) (fun a _ ih n => cond (Nat.beq a.toNat c) (ih (Nat.succ n)) (ih n)) l n
omit [Sg] in
theorem byte_beq {a : UInt8} {c : Nat} (hc : c < 256) : Nat.beq a.toNat c = (a == c.toUInt8) := by
  rw [Bool.eq_iff_iff]
  rw [beq_iff_eq]
  constructor
  · intro h; have h := Nat.eq_of_beq_eq_true h; subst h; simp
  · intro h
    subst h
    have : (c.toUInt8).toNat = c := by simp; omega
    rw [this]; simp
omit [Sg] in
theorem posV_eq {c : Nat} (hc : c < 256) : ∀ (l : List UInt8) (i : Nat), posV c l i = .int .i64 (if Lib.indexByte l c.toUInt8 = -1 then -1 else Lib.indexByte l c.toUInt8 + i) := by
  intro l
  induction l with
  | nil => intro i; rfl
  | cons a l ih =>
    intro i
    show cond (Nat.beq a.toNat c) (.int .i64 (.ofNat i)) (posV c l (Nat.succ i)) = _
    rw [byte_beq hc, ih]
    have e1 : Lib.indexByte (a :: l) c.toUInt8 = if a == c.toUInt8 then 0 else if Lib.indexByte l c.toUInt8 == -1 then -1 else Lib.indexByte l c.toUInt8 + 1 := rfl
    rw [e1]
    have hge := Lib.indexByte_ge l c.toUInt8
    cases hb : a == c.toUInt8 with
    | true => simp
    | false =>
      simp only [cond_false, Bool.false_eq_true, if_false, beq_iff_eq]
      by_cases h1 : Lib.indexByte l c.toUInt8 = -1
      · simp [h1]
      · rw [if_neg h1, if_neg h1, if_neg (by omega)]
        congr 1
        have : ((Nat.succ i : Nat) : Int) = (i : Int) + 1 := by omega
        omega
omit [Sg] in
theorem cntV_eq {c : Nat} (hc : c < 256) : ∀ (l : List UInt8) (n : Nat), cntV c l n = .int .i64 ((Lib.countByte l c.toUInt8 + n : Nat) : Int) := by
  intro l
  induction l with
  | nil => intro n; simp [cntV, Lib.countByte]
  | cons a l ih =>
    intro n
    show cond (Nat.beq a.toNat c) (cntV c l (Nat.succ n)) (cntV c l n) = _
    rw [byte_beq hc, ih, ih]
    unfold Lib.countByte
    rw [List.count_cons]
    cases hb : a == c.toUInt8 with
    | true => simp only [cond_true, if_true]; congr 1; omega
    | false => simp only [cond_false, Bool.false_eq_true, if_false]; congr 1

/-- The parts of a reflectlite.Value. -/
def vparts (P : Program) (K : Nat) (v : Value) : Option (TypeId × Addr × Nat) :=
  match v with
  | .agg c => match c.toList with
    | [hd, .pointer (some a), .int .u64 f] => if kok K hd = true ∧ 0 < f then match pureRun P (do let t ← Rtype.ofHandle hd; Rtype.noPack "a Value asked or handed on" t; pure t) with
        | some t => some (t, a, f.toNat)
        | none => none
      else none
    | _ => none
  | _ => none
theorem vparts_ok {v v' : Value} {t : TypeId} {a : Addr} {f : Nat} (R : Rel P W K J φ h w) (e : vparts P K v = some (t, a, f)) (hv : VR φ v v') :
    ∃ x, φ a.block = some x ∧ ∀ w' : World, (ReflectliteValue.parts v').run P w' = .ok (some (t, ⟨x.b, a.off + x.d, none⟩, f)) w' ∧ (ReflectliteValue.partsAny v').run P w' = .ok (some (t, ⟨x.b, a.off + x.d, none⟩, f)) w' := by
  unfold vparts at e
  split at e
  case h_2 => cases e
  rename_i c
  obtain ⟨c', rfl, hc⟩ := hv.agg_inv
  split at e
  case h_2 => cases e
  rename_i hd b g hl
  split at e
  case isFalse => cases e
  rename_i hk
  split at e
  case h_2 => cases e
  rename_i t' ht
  cases e
  rw [hl] at hc
  obtain ⟨cl⟩ := c'
  simp only at hc
  cases hc with
  | @cons _ hd' _ _ h1 hc => cases hc with
    | cons h2 hc => cases hc with
      | @cons _ g' _ _ h3 hc =>
        cases hc
        obtain ⟨x, hx, hs, rfl⟩ := h2.ptr_inv
        have e1 : hd = hd' := (kok_eq R hk.1 h1).symm
        subst e1
        have e2 := h3.flat_inv rfl
        subst e2
        obtain ⟨n, rfl⟩ : ∃ n : Nat, g = ((n + 1 : Nat) : Int) := ⟨g.toNat - 1, by omega⟩
        rw [pureRun_bind] at ht
        cases ho : pureRun P (Rtype.ofHandle hd) with
        | none => rw [ho] at ht; cases ht
        | some t0 =>
          rw [ho] at ht
          simp only [Option.bind_some] at ht
          rw [pureRun_bind] at ht
          cases hp : pureRun P (Rtype.noPack "a Value asked or handed on" t0) with
          | none => rw [hp] at ht; cases ht
          | some u =>
            rw [hp] at ht
            simp only [Option.bind_some] at ht
            have : t0 = t := by cases ht; rfl
            subst this
            refine ⟨x, hx, fun w' => ?_⟩
            have q : (ReflectliteValue.partsAny (.agg ⟨[hd, .pointer (some ⟨x.b, a.off + x.d, none⟩), .int .u64 ((n + 1 : Nat) : Int)]⟩)).run P w' = .ok (some (t0, ⟨x.b, a.off + x.d, none⟩, (((n + 1 : Nat) : Int)).toNat)) w' := by
              show (Rtype.ofHandle hd >>= fun t => pure (some (t, (⟨x.b, a.off + x.d, none⟩ : Addr), (((n + 1 : Nat) : Int)).toNat))).run P w' = _
              rw [Sem.run_bind, pureRun_run P w' _ _ ho]
              rfl
            refine ⟨?_, q⟩
            unfold ReflectliteValue.parts
            rw [Sem.run_bind, q]
            simp only [Result.andThen_ok, Sem.run_bind, pureRun_run P w' _ _ hp, Sem.run_pure]

def isNilB : Value → Bool
  | .chan none | .nilFunc | .nilIface | .map none | .pointer none | .slice none _ _ => true
  | _ => false
def addrK (a : Addr) : Value := .pointer (some a)

noncomputable def xrun (P : Program) (K : Nat) (x : XF) (args : List Value) (h : AHeap) : Option (Value × AHeap) :=
  match x, args with
  | .valueOf, [.iface t v] => match pureRun P (do let hd ← Rtype.handle t; let k ← Rtype.kind t; pure (hd, k)) with
    | some (hd, k) => if kok K hd = true then some (.agg #[hd, (anew t v h).1, .int .u64 (Int.ofNat (k + 128 + 0))], (anew t v h).2) else none
    | none => none
  | .vtype, [v] => match vparts P K v with
    | some (t, _, _) => match pureRun P (ReflectliteType.toType t) with
      | some r => if kok K r = true then some (r, h) else none
      | none => none
    | none => none
  | .isNil, [v] => match vparts P K v with
    | some (t, a, f) => if [18, 19, 20, 21, 22, 23, 26].contains (f % 32) = true then match aload P t a h with
        | some u => match u with
          | .agg _ => none
          | u => some (.bool (isNilB u), h)
        | none => none
      else none
    | none => none
  | .velem, [v] => match vparts P K v with
    | some (t, a, f) => if f % 32 = 22 then match aload P t a h with
        | some (.pointer (some p)) => match pureRun P (Rtype.elem? t) with
          | some (some e) => match pureRun P (do let hd ← Rtype.handle e; let k ← Rtype.kind e; pure (hd, k)) with
            | some (hd, k) => if kok K hd = true then some (.agg #[hd, .pointer (some p), .int .u64 (Int.ofNat (k + 128 + 256))], h) else none
            | none => none
          | _ => none
        | _ => none
      else none
    | none => none
  | .vset, [v, y] => match vparts P K v, vparts P K y with
    | some (dst, a, fl), some (src, b, _) => if fl / 256 % 2 = 0 then none else match aload P src b h with
      | some u => match pureRun P (Rtype.directlyAssignable dst src) with
        | some true => match astore P dst a u h with
          | some h1 => some (.tuple #[], h1)
          | none => none
        | _ => none
      | none => none
    | _, _ => none
  | .typeOf, [.iface t _] => match pureRun P (ReflectliteType.toType t) with
    | some r => if kok K r = true then some (r, h) else none
    | none => none
  | .pure e, args => if args.all (kok K) = true then match pureRun P (e args.toArray) with
      | some r => if kok K r = true then some (r, h) else none
      | none => none
    else none
  | .fidx, [.string s, .int .u8 (.ofNat c)] => cond (Nat.blt c 256) (some (posV c s.data.toList 0, h)) none
  | .fcnt, [.string s, .int .u8 (.ofNat c)] => cond (Nat.blt c 256) (some (cntV c s.data.toList 0, h)) none
  | _, _ => none

theorem pure2 {α β γ : Type} {s : Sem α} {t : Sem β} {f : α → β → γ} {r : γ} (e : pureRun P (do let a ← s; let b ← t; pure (f a b)) = some r) : ∃ a b, pureRun P s = some a ∧ pureRun P t = some b ∧ r = f a b := by
  rw [pureRun_bind] at e
  cases hs : pureRun P s with
  | none => rw [hs] at e; cases e
  | some a =>
    rw [hs] at e
    simp only [Option.bind_some] at e
    rw [pureRun_bind] at e
    cases ht : pureRun P t with
    | none => rw [ht] at e; cases e
    | some b =>
      rw [ht] at e
      simp only [Option.bind_some] at e
      cases e
      exact ⟨a, b, rfl, rfl, rfl⟩

theorem vset_run {v y val : Value} {dst src : TypeId} {a b : Addr} {fl fl2 : Nat} {w w' : World} (h1 : (ReflectliteValue.parts v).run P w = .ok (some (dst, a, fl)) w) (h2 : (ReflectliteValue.parts y).run P w = .ok (some (src, b, fl2)) w)
    (hf : ¬ fl / 256 % 2 = 0) (hl : (loadVar src b).run P w = .ok val w) (hd : pureRun P (Rtype.directlyAssignable dst src) = some true) (hs : (storeVar dst a val).run P w = .ok () w') : (ReflectliteValue.set #[v, y]).run P w = .ok (.tuple #[]) w' := by
  show (ReflectliteValue.parts v >>= _ : Sem Value).run P w = _
  rw [Sem.run_bind, h1, Result.andThen_ok]
  show (ReflectliteValue.parts y >>= _ : Sem Value).run P w = _
  rw [Sem.run_bind, h2, Result.andThen_ok]
  have hb : (fl / ReflectliteValue.flagAddr % 2 == 0) = false := beq_eq_false_iff_ne.2 hf
  simp only [hb, Bool.false_eq_true, if_false, Sem.run_bind, hl, Result.andThen_ok, pureRun_run P w _ _ hd, if_true, hs, Sem.run_pure]

theorem xrun_ok {x : XF} {args args' : List Value} {v : Value} (R : Rel P W K J φ h w) (e : xrun P K x args h = some (v, h')) (ha : VRs φ args args') :
    ∃ ψ w' v', φ.le ψ ∧ (x.row args'.toArray).run P w = .ok v' w' ∧ Rel P W K J ψ h' w' ∧ VR ψ v v' := by
  unfold xrun at e
  split at e
  · rename_i t u
    cases ha with
    | cons h1 ha =>
      cases ha
      obtain ⟨u', rfl, hu⟩ := h1.iface_inv
      split at e
      case h_2 => cases e
      rename_i hd k hp
      obtain ⟨hd0, k0, p1, p2, p3⟩ := pure2 (f := Prod.mk) hp
      cases p3
      split at e
      case isFalse => cases e
      rename_i hk
      cases e
      obtain ⟨ψ, w', a, k1, k2, k3, k4⟩ := anew_ok (t := t) R hu
      refine ⟨ψ, w', .agg #[hd, .pointer (some a), .int .u64 (Int.ofNat (k + 128 + 0))], k1, ?_, k3, .of_aggs (.cons (kok_VR k3 hk) (.cons k4 (.cons (.flat rfl) .nil)))⟩
      show (ReflectliteValue.unpack (.iface t u')).run P w = _
      simp only [ReflectliteValue.unpack, Sem.run_bind, k2, Result.andThen_ok, ReflectliteValue.mk, pureRun_run P w' _ _ p1, pureRun_run P w' _ _ p2, Sem.run_pure]
      rfl
  · rename_i u
    cases ha with
    | @cons _ u' _ _ h1 ha =>
      cases ha
      split at e
      case h_2 => cases e
      rename_i t a f hp
      split at e
      case h_2 => cases e
      rename_i r hr
      split at e
      case isFalse => cases e
      rename_i hk
      have e1 : r = v ∧ h = h' := by simpa using e
      obtain ⟨rfl, rfl⟩ := e1
      obtain ⟨x, hx, q⟩ := vparts_ok R hp h1
      refine ⟨φ, w, r, φ.le_refl, ?_, R, kok_VR R hk⟩
      have hm : XF.row .vtype #[u'] = (ReflectliteValue.partsAny u' >>= fun r => match r with | none => ReflectliteValue.valueError "reflectlite.Value.Type" 0 | some (t, a, fl) => ReflectliteType.toType t) := rfl
      show (XF.row .vtype #[u']).run P w = _
      rw [hm, Sem.run_bind, (q w).2]
      exact pureRun_run P w _ _ hr
  · rename_i u
    cases ha with
    | @cons _ u' _ _ h1 ha =>
      cases ha
      split at e
      case h_2 => cases e
      rename_i t a f hp
      split at e
      case isFalse => cases e
      rename_i hc
      split at e
      case h_2 => cases e
      rename_i u0 hl
      split at e
      · cases e
      rename_i hna
      cases e
      obtain ⟨x, hx, q⟩ := vparts_ok R hp h1
      obtain ⟨v', l1, l2⟩ := aload_ok R hl hx
      refine ⟨φ, w, .bool (isNilB u0), φ.le_refl, ?_, R, .flat rfl⟩
      have hm : XF.row .isNil #[u'] = (ReflectliteValue.parts u' >>= fun r => match r with | none => ReflectliteValue.valueError "reflectlite.Value.IsNil" 0 | some (t, a, fl) => ReflectliteValue.isNil t a fl (fl % 32)) := rfl
      show (XF.row .isNil #[u']).run P w = _
      rw [hm, Sem.run_bind, (q w).1]
      show (ReflectliteValue.isNil t ⟨x.b, a.off + x.d, none⟩ f (f % 32)).run P w = _
      unfold ReflectliteValue.isNil
      rw [hc]
      simp only [Bool.not_true, Bool.false_eq_true, if_false, Sem.run_bind, l1, Result.andThen_ok]
      cases l2 with
      | flat hf =>
        cases u0 with
        | pointer o => cases o <;> rfl
        | map o => cases o <;> rfl
        | chan o => cases o <;> rfl
        | slice o _ _ => cases o <;> rfl
        | agg c => exact absurd rfl (hna c)
        | _ => rfl
      | sym hs =>
        have := Sg.sc _ _ hs
        cases v' <;> first | rfl | (simp [scalar] at this; done)
      | _ => rfl
  · rename_i u
    cases ha with
    | @cons _ u' _ _ h1 ha =>
      cases ha
      split at e
      case h_2 => cases e
      rename_i t a f hp
      split at e
      case isFalse => cases e
      rename_i hc
      split at e
      case h_2 => cases e
      rename_i p hl
      split at e
      case h_2 => cases e
      rename_i el hel
      split at e
      case h_2 => cases e
      rename_i hd k hpp
      obtain ⟨hd0, k0, p1, p2, p3⟩ := pure2 (f := Prod.mk) hpp
      cases p3
      split at e
      case isFalse => cases e
      rename_i hk
      cases e
      obtain ⟨x, hx, q⟩ := vparts_ok R hp h1
      obtain ⟨v', l1, l2⟩ := aload_ok R hl hx
      obtain ⟨y, hy, hsp, rfl⟩ := l2.ptr_inv
      refine ⟨φ, w, .agg #[hd, .pointer (some ⟨y.b, p.off + y.d, none⟩), .int .u64 (Int.ofNat (k + 128 + 256))], φ.le_refl, ?_, R, .of_aggs (.cons (kok_VR R hk) (.cons l2 (.cons (.flat rfl) .nil)))⟩
      have hm : XF.row .velem #[u'] = (ReflectliteValue.parts u' >>= fun r => match r with | none => ReflectliteValue.valueError "reflectlite.Value.Elem" 0 | some (t, a, fl) => ReflectliteValue.elem t a fl (fl % 32)) := rfl
      show (XF.row .velem #[u']).run P w = _
      rw [hm, Sem.run_bind, (q w).1]
      show (ReflectliteValue.elem t ⟨x.b, a.off + x.d, none⟩ f (f % 32)).run P w = _
      unfold ReflectliteValue.elem
      rw [hc, if_neg (by decide)]
      simp only [Sem.run_bind, l1, Result.andThen_ok, pureRun_run P w _ _ hel]
      show (ReflectliteValue.mk el ⟨y.b, p.off + y.d, none⟩ 256).run P w = _
      simp only [ReflectliteValue.mk, Sem.run_bind, pureRun_run P w _ _ p1, pureRun_run P w _ _ p2, Result.andThen_ok, Sem.run_pure]
      rfl
  · rename_i u y
    cases ha with
    | @cons _ u' _ _ h1 ha => cases ha with
      | @cons _ y' _ _ h2 ha =>
        cases ha
        split at e
        case h_2 => cases e
        rename_i dst a fl src b fl2 hp1 hp2
        split at e
        · cases e
        rename_i hfl
        split at e
        case h_2 => cases e
        rename_i u0 hl
        split at e
        case h_2 => cases e
        rename_i hda
        split at e
        case h_2 => cases e
        rename_i h1' hst
        cases e
        obtain ⟨x, hx, q1⟩ := vparts_ok R hp1 h1
        obtain ⟨z, hz, q2⟩ := vparts_ok R hp2 h2
        obtain ⟨v', l1, l2⟩ := aload_ok R hl hz
        obtain ⟨w', s1, s2⟩ := astore_ok R hst hx l2
        refine ⟨φ, w', .tuple #[], φ.le_refl, ?_, s2, .of_tuples .nil⟩
        exact vset_run (q1 w).1 (q2 w).1 hfl l1 hda s1
  · rename_i t u
    cases ha with
    | cons h1 ha =>
      cases ha
      obtain ⟨u', rfl, hu⟩ := h1.iface_inv
      split at e
      case h_2 => cases e
      rename_i r hr
      split at e
      case isFalse => cases e
      rename_i hk
      obtain ⟨rfl, rfl⟩ : r = v ∧ h = h' := by simpa using e
      exact ⟨φ, w, r, φ.le_refl, pureRun_run P w _ _ hr, R, kok_VR R hk⟩
  · rename_i ee args
    split at e
    case isFalse => cases e
    rename_i hall
    split at e
    case h_2 => cases e
    rename_i r hr
    split at e
    case isFalse => cases e
    rename_i hk
    obtain ⟨rfl, rfl⟩ : r = v ∧ h = h' := by simpa using e
    have key : ∀ l l' : List Value, VRs φ l l' → l.all (kok K) = true → l' = l := by
      intro l l' hl
      induction hl with
      | nil => intro _; rfl
      | cons h1 _ ih =>
        intro hall
        simp only [List.all_cons, Bool.and_eq_true] at hall
        rw [kok_eq R hall.1 h1, ih hall.2]
    have := key _ _ ha hall
    subst this
    exact ⟨φ, w, r, φ.le_refl, pureRun_run P w _ _ hr, R, kok_VR R hk⟩
  · rename_i s c
    cases hc : Nat.blt c 256 with
    | false => rw [hc] at e; cases e
    | true =>
      rw [hc] at e
      simp only [Nat.blt] at hc
      have hc := Nat.le_of_ble_eq_true hc
      cases e
      have hv : args' = [.string s, .int .u8 (.ofNat c)] := by
        cases ha with | cons h1 h2 => cases h2 with | cons h2 h3 => cases h3; rw [h1.flat_inv rfl, h2.flat_inv rfl]
      subst hv
      refine ⟨φ, w, _, φ.le_refl, Lib.run_indexByteString s (.ofNat c) w, R, ?_⟩
      rw [posV_eq hc]
      have e0 : (Int.ofNat c).toNat.toUInt8 = c.toUInt8 := rfl
      rw [e0]
      have : (if Lib.indexByte s.data.toList c.toUInt8 = -1 then -1 else Lib.indexByte s.data.toList c.toUInt8 + ((0 : Nat) : Int)) = Lib.indexByte s.data.toList c.toUInt8 := by
        split
        · rename_i h; rw [h]
        · simp
      rw [this]
      exact .flat rfl
  · rename_i s c
    cases hc : Nat.blt c 256 with
    | false => rw [hc] at e; cases e
    | true =>
      rw [hc] at e
      simp only [Nat.blt] at hc
      have hc := Nat.le_of_ble_eq_true hc
      cases e
      have hv : args' = [.string s, .int .u8 (.ofNat c)] := by
        cases ha with | cons h1 h2 => cases h2 with | cons h2 h3 => cases h3; rw [h1.flat_inv rfl, h2.flat_inv rfl]
      subst hv
      refine ⟨φ, w, _, φ.le_refl, Lib.run_countString s (.ofNat c) w, R, ?_⟩
      rw [cntV_eq hc]
      exact .flat rfl
  · cases e

/-- The entries, by the functions' numbers. -/
noncomputable def extOf (P : Program) (K : Nat) (T : List (FuncId × XF)) : Ext := fun f args h => match T.lookup f with
  | some x => xrun P K x args h
  | none => none
theorem extOk_of {T : List (FuncId × XF)} (hT : ∀ f x, T.lookup f = some x → ∀ (args : Array Value) (w : World), (callFunc f args).run P w = ((x.row args).run P w).andThen fun v w' => .ok (.value v) w') : ExtOk P W K (extOf P K T) := by
  intro f args h v h' e _ J φ w args' R ha
  unfold extOf at e
  split at e
  · rename_i x hx
    obtain ⟨ψ, w', v', k1, k2, k3, k4⟩ := xrun_ok R e ha
    refine ⟨ψ, w', v', k1, ?_, k3, k4⟩
    rw [hT f x hx, k2]
    rfl
  · cases e
end
end Go.Ab
