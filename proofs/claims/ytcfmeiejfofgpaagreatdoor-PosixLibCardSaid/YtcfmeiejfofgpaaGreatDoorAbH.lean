/- The abstract evaluator: comparisons, conversions, type assertions, checks; and that the model's do what they tell. -/
import Derived.Test.YtcfmeiejfofgpaaGreatDoorAbG
import Derived.ChangeKeysEq
namespace Go.Ab
open Go.RowKit
set_option linter.unusedVariables false
set_option linter.unusedSectionVars false

section
variable [Sg] {P : Program} {W : World} {K : Nat} {J : Nat → Option Obj} {φ : Map} {h h' : AHeap} {w : World}

/-! ### == and != -/
def liveCells (h : AHeap) (B : Nat) : Bool :=
  match h.m.get B with
  | some (.cells _ _ _) => decide (h.ro ≤ B)
  | _ => false

def aeq (P : Program) (t : TypeId) (a b : Value) (h : AHeap) : Option Bool :=
  match P.underlying t, a, b with
  | some (.pointer _), .pointer none, .pointer b => some b.isNone
  | some (.pointer _), .pointer (some _), .pointer none => some false
  | some (.pointer elem), .pointer (some a), .pointer (some b) => match P.info? elem with
    | none => none
    | some i => if i.size ≠ 0 then
        if a.block = b.block then some (a.off == b.off)
        else if liveCells h a.block = true ∧ liveCells h b.block = true then some false else none
      else none
  | some (.interface _), .nilIface, .iface _ _ => some false
  | some (.interface _), .iface _ _, .nilIface => some false
  | some (.interface _), .iface s _, .iface t _ => if s ≠ t then some false else none
  | some (.slice _), .slice none _ _, .slice b _ _ => some b.isNone
  | some (.slice _), .slice (some _) _ _, .slice none _ _ => some false
  | _, _, _ => none

theorem run_sameAddr_ne {a b : Addr} {C D : Array Value} {e f : TypeId} (ha : w.heap[a.block]? = some (.cells C e (0, 0))) (hb : w.heap[b.block]? = some (.cells D f (0, 0))) (hne : a.block ≠ b.block) :
    (sameAddr a b).run P w = .ok false w := by
  have f1 : ∀ (x : Addr) (C : Array Value) (e : TypeId), w.heap[x.block]? = some (.cells C e (0, 0)) → w.frozen? x = false := by
    intro x C e hx; simp [World.frozen?, hx]
  have s1 : ∀ (x : Addr) (C : Array Value) (e : TypeId), w.heap[x.block]? = some (.cells C e (0, 0)) → w.shape? x.block = some (e, C.size) := by
    intro x C e hx; simp [World.shape?, hx]
  have st : ∀ (x : Addr) (C : Array Value) (e : TypeId), w.heap[x.block]? = some (.cells C e (0, 0)) → (stringish x).run P w = .ok false w := by
    intro x C e hx
    simp only [stringish, Sem.run_bind, run_frozen, f1 x C e hx, Result.andThen_ok, Bool.false_eq_true, if_false, run_shape, s1 x C e hx]
    rw [f1 ⟨x.block, C.size, none⟩ C e hx]
  have nv : ∀ (x : Addr) (C : Array Value) (e : TypeId), w.heap[x.block]? = some (.cells C e (0, 0)) → (noView x).run P w = .ok () w := by
    intro x C e hx
    simp only [noView, viewAt, Sem.run_bind, run_shape, s1 x C e hx, Result.andThen_ok, Option.isSome_some, if_true, Sem.run_pure, Option.isSome_none, Bool.false_eq_true, if_false]
  have mb : (mayBeOne a b).run P w = .ok false w := by
    simp only [mayBeOne, Sem.run_bind, st a C e ha, st b D f hb, Result.andThen_ok, run_shape, s1 b D f hb, Sem.run_pure, Bool.false_and, Bool.or_self]
  unfold sameAddr
  have hbeq : (a.block == b.block) = false := beq_eq_false_iff_ne.2 hne
  simp only [hbeq, Bool.false_eq_true, if_false, Sem.run_bind, run_frozen, f1 a C e ha, Result.andThen_ok, Bool.false_and, nv a C e ha, nv b D f hb, mb, Sem.run_pure]

theorem aeq_ok {t : TypeId} {a b a' b' : Value} {r : Bool} (R : Rel P W K J φ h w) (e : aeq P t a b h = some r) (ha : VR φ a a') (hb : VR φ b b') :
    (Op.equal t a' b').run P w = .ok r w ∧ (∀ op x y, (eqGuard op t x y a' b').run P w = .ok () w) ∧ (∀ c, a' ≠ .agg c) ∧ (∀ k n, a' ≠ .int k n) ∧ (∀ k n, a' ≠ .float k n) ∧ (∀ k m n, a' ≠ .complex k m n) ∧ (∀ s, a' ≠ .string s) := by
  unfold aeq at e
  have g : ∀ op x y (a' b' : Value), (¬ (a' = .nilIface ∧ b' = .nilIface)) → (∀ c, a' ≠ .agg c) → (eqGuard op t x y a' b').run P w = .ok () w := by
    intro op x y a' b' h1 h2
    cases op <;> first
      | rfl
      | (cases a' <;> first | (exact absurd rfl (h2 _)) | (cases b' <;> first | (exact absurd ⟨rfl, rfl⟩ h1) | rfl))
  split at e
  · rename_i hu
    have := ha.flat_inv rfl
    subst this
    cases e
    refine ⟨?_, fun op x y => g op x y _ _ (fun h => by cases h.1) nofun, nofun, nofun, nofun, nofun, nofun⟩
    cases hb with
    | flat hf =>
      rename_i o
      cases o with
      | none => (show (Op.equalIn (9999 + 1) t _ _).run P w = _; generalize 9999 = d; simp only [Op.equalIn, Sem.run_bind, run_underlying w hu, Result.andThen_ok, Sem.run_pure])
      | some => simp [noAddr] at hf
    | ptr => (show (Op.equalIn (9999 + 1) t _ _).run P w = _; generalize 9999 = d; simp only [Op.equalIn, Sem.run_bind, run_underlying w hu, Result.andThen_ok, Sem.run_pure, Option.isNone_some])
  · rename_i hu
    obtain ⟨x, hx, hs, rfl⟩ := ha.ptr_inv
    have := hb.flat_inv rfl
    subst this
    cases e
    refine ⟨?_, fun op x y => g op x y _ _ (fun h => by cases h.1) nofun, nofun, nofun, nofun, nofun, nofun⟩
    (show (Op.equalIn (9999 + 1) t _ _).run P w = _; generalize 9999 = d; simp only [Op.equalIn, Sem.run_bind, run_underlying w hu, Result.andThen_ok, Sem.run_pure])
  · rename_i elem a b hu
    obtain ⟨x, hx, hs, rfl⟩ := ha.ptr_inv
    obtain ⟨y, hy, hs2, rfl⟩ := hb.ptr_inv
    refine ⟨?_, fun op x y => g op x y _ _ (fun h => by cases h.1) nofun, nofun, nofun, nofun, nofun, nofun⟩
    split at e
    · cases e
    rename_i i hi
    split at e
    case isFalse => cases e
    rename_i hsz
    (show (Op.equalIn (9999 + 1) t _ _).run P w = _; generalize 9999 = d; simp only [Op.equalIn, Sem.run_bind, run_underlying w hu, Result.andThen_ok, run_sizeOf w hi])
    rw [if_pos hsz]
    split at e
    · rename_i hbl
      cases e
      have hxy : x = y := by rw [hbl] at hx; rw [hx] at hy; exact Option.some.inj hy
      subst hxy
      unfold sameAddr
      simp only [beq_self_eq_true, if_true, Sem.run_pure]
      congr 1
      by_cases ho : a.off = b.off
      · rw [ho]; simp
      · have h1 : (a.off == b.off) = false := beq_eq_false_iff_ne.2 ho
        rw [h1]
        refine beq_eq_false_iff_ne.2 fun h => ?_
        simp only [Addr.mk.injEq] at h
        omega
    · rename_i hbl
      split at e
      case isFalse => cases e
      rename_i hl
      cases e
      obtain ⟨hl1, hl2⟩ := hl
      unfold liveCells at hl1 hl2
      split at hl1
      · rename_i c1 n1 e1 h1
        split at hl2
        · rename_i c2 n2 e2 h2
          obtain ⟨x', C, f1, E1, hx', k1, q1, _⟩ := R.cells h1
          rw [hx] at hx'; cases hx'
          obtain ⟨y', D, f2, E2, hy', k2, q2, _⟩ := R.cells h2
          rw [hy] at hy'; cases hy'
          obtain ⟨rfl, rfl⟩ := q1 (by simpa using hl1)
          obtain ⟨rfl, rfl⟩ := q2 (by simpa using hl2)
          exact run_sameAddr_ne (a := ⟨x.b, a.off + x.d, none⟩) (b := ⟨y.b, b.off + y.d, none⟩) k1 k2 (fun e => hbl (R.inj _ _ x y _ _ h1 h2 rfl rfl hx hy e))
        · cases hl2
      · cases hl1
  · rename_i hu
    have := ha.flat_inv rfl
    subst this
    obtain ⟨u, rfl, _⟩ := hb.iface_inv
    cases e
    refine ⟨?_, fun op x y => g op x y _ _ (fun h => by cases h.2) nofun, nofun, nofun, nofun, nofun, nofun⟩
    (show (Op.equalIn (9999 + 1) t _ _).run P w = _; generalize 9999 = d; simp only [Op.equalIn, Sem.run_bind, run_underlying w hu, Result.andThen_ok, Sem.run_pure])
  · rename_i hu
    have := hb.flat_inv rfl
    subst this
    obtain ⟨u, rfl, _⟩ := ha.iface_inv
    cases e
    refine ⟨?_, fun op x y => g op x y _ _ (fun h => by cases h.1) nofun, nofun, nofun, nofun, nofun, nofun⟩
    (show (Op.equalIn (9999 + 1) t _ _).run P w = _; generalize 9999 = d; simp only [Op.equalIn, Sem.run_bind, run_underlying w hu, Result.andThen_ok, Sem.run_pure])
  · rename_i hu
    obtain ⟨u, rfl, _⟩ := ha.iface_inv
    obtain ⟨v, rfl, _⟩ := hb.iface_inv
    split at e
    case isFalse => cases e
    rename_i hne
    cases e
    refine ⟨?_, fun op x y => g op x y _ _ (fun h => by cases h.1) nofun, nofun, nofun, nofun, nofun, nofun⟩
    (show (Op.equalIn (9999 + 1) t _ _).run P w = _; generalize 9999 = d; simp only [Op.equalIn, Sem.run_bind, run_underlying w hu, Result.andThen_ok])
    rw [if_pos hne]
    rfl
  · rename_i hu
    have := ha.flat_inv rfl
    subst this
    cases e
    refine ⟨?_, fun op x y => g op x y _ _ (fun h => by cases h.1) nofun, nofun, nofun, nofun, nofun, nofun⟩
    cases hb with
    | flat hf =>
      rename_i o _ _
      cases o with
      | none => (show (Op.equalIn (9999 + 1) t _ _).run P w = _; generalize 9999 = d; simp only [Op.equalIn, Sem.run_bind, run_underlying w hu, Result.andThen_ok, Sem.run_pure])
      | some => simp [noAddr] at hf
    | slice => (show (Op.equalIn (9999 + 1) t _ _).run P w = _; generalize 9999 = d; simp only [Op.equalIn, Sem.run_bind, run_underlying w hu, Result.andThen_ok, Sem.run_pure, Option.isNone_some])
  · rename_i hu
    obtain ⟨x, cap', o, _, _, _, _, _, _, rfl⟩ := ha.slice_inv
    have := hb.flat_inv rfl
    subst this
    cases e
    refine ⟨?_, fun op x y => g op x y _ _ (fun h => by cases h.1) nofun, nofun, nofun, nofun, nofun, nofun⟩
    (show (Op.equalIn (9999 + 1) t _ _).run P w = _; generalize 9999 = d; simp only [Op.equalIn, Sem.run_bind, run_underlying w hu, Result.andThen_ok, Sem.run_pure])
  · cases e

def isSy (v : Value) : Bool :=
  match v with
  | .chan (some _) => true
  | v => noAddr v
def asym (P : Program) (op : BinOp) (t : TypeId) (a b : Value) : Option Value :=
  if isSy a = true ∧ isSy b = true then Sg.bin P op t a b else none
theorem isSy_or {v : Value} (h : isSy v = true) : noAddr v = true ∨ ∃ i, v = .chan (some i) := by
  cases v <;> first | exact .inl h | (rename_i o; cases o <;> first | exact .inr ⟨_, rfl⟩ | exact .inl h) | (simp [isSy, noAddr] at h)
theorem asym_ok {op : BinOp} {t : TypeId} {x y : Operand} {a b a' b' v : Value} (w : World) (e : asym P op t a b = some v) (ha : VR φ a a') (hb : VR φ b b') :
    ∃ v', (do eqGuard op t x y a' b'; binOp op t a' b' : Sem Value).run P w = .ok v' w ∧ VR φ v v' := by
  unfold asym at e
  split at e
  case isFalse => cases e
  rename_i h
  obtain ⟨v', h1, h2⟩ := Sg.ok P w op t x y a b v a' b' e (ha.sy (isSy_or h.1)) (hb.sy (isSy_or h.2))
  exact ⟨v', h1, .of_sy h2⟩
/-- Are two arrays the same, place by place? -/
def aarrEq (P : Program) (t : TypeId) (c d : Array Value) : Bool :=
  match P.underlying t with
  | some (.array len elem) => match P.underlying elem, P.info? elem with
    | some de, some i => !isAggB de && (i.size == 1 && (!P.eqGuardType P.depth t && (List.range len).all fun j => match c[j]?, d[j]? with
        | some x, some y => isSy x && (isSy y && Sg.eqs P elem x y)
        | _, _ => false))
    | _, _ => false
  | _ => false
theorem aarrEq_ok {t : TypeId} {c d c' d' : Array Value} (w : World) (e : aarrEq P t c d = true) (hc : VRs φ c.toList c'.toList) (hd : VRs φ d.toList d'.toList) :
    (Op.equal t (.agg c') (.agg d')).run P w = .ok true w ∧ ∀ op x y, (eqGuard op t x y (.agg c') (.agg d')).run P w = .ok () w := by
  unfold aarrEq at e
  split at e
  case h_2 => cases e
  rename_i len elem hu
  split at e
  case h_2 => cases e
  rename_i de i hde hi
  simp only [Bool.and_eq_true, Bool.not_eq_true', beq_iff_eq] at e
  obtain ⟨ha, hs, hg, hall⟩ := e
  constructor
  · show (Op.equalIn (9999 + 1) t _ _).run P w = _
    rw [run_equalIn_array w (9998 + 1) _ _ hu hi]
    have hcs : P.cellsOf elem = 1 := by simp [Program.cellsOf, hi, hs]
    rw [hcs]
    have key : ∀ l : List Nat, (l.all fun j => match c[j]?, d[j]? with
        | some x, some y => isSy x && (isSy y && Sg.eqs P elem x y)
        | _, _ => false) = true → (Op.eqItems (9998 + 1) elem 1 c' d' l).run P w = .ok true w := by
      intro l
      induction l with
      | nil => intro _; rfl
      | cons j l ih =>
        intro h
        simp only [List.all_cons, Bool.and_eq_true] at h
        obtain ⟨h1, h2⟩ := h
        split at h1
        case h_2 => cases h1
        rename_i x y hx hy
        simp only [Bool.and_eq_true] at h1
        have a1 : apart P elem c j = some x := by simp only [apart, hde, ha, Bool.false_eq_true, if_false, hx]
        have a2 : apart P elem d j = some y := by simp only [apart, hde, ha, Bool.false_eq_true, if_false, hy]
        obtain ⟨x', b1, b2⟩ := apart_ok w a1 hc
        obtain ⟨y', b3, b4⟩ := apart_ok w a2 hd
        have b5 := Sg.eqs_ok P w 9998 elem x y x' y' h1.2.2 (b2.sy (isSy_or h1.1)) (b4.sy (isSy_or h1.2.1))
        simp only [Op.eqItems, Sem.run_bind, Nat.mul_one, b1, b3, b5, Result.andThen_ok, Bool.not_true, Bool.false_eq_true, if_false, ih h2]
    exact key _ hall
  · intro op x y
    unfold eqGuard
    cases op <;> first
      | rfl
      | (simp only [Bool.not_true, Bool.false_eq_true, if_false, Sem.run_bind, run_program, Result.andThen_ok, hg, Bool.not_false, if_true, Sem.run_pure])
def abin (P : Program) (op : BinOp) (t : TypeId) (x y : Operand) (a b : Value) (h : AHeap) : Option Value :=
  if clean a = true ∧ clean b = true then
    match pureRun P (do eqGuard op t x y a b; binOp op t a b) with
    | none => none
    | some v => if clean v = true then some v else none
  else match asym P op t a b with
  | some v => some v
  | none => match op, a, b with
    | .eql, .agg c, .agg d => if aarrEq P t c d = true then some (.bool true) else none
    | .neq, .agg c, .agg d => if aarrEq P t c d = true then some (.bool false) else none
    | op, a, b => match op with
    | .eql => match aeq P t a b h with
      | none => none
      | some r => some (.bool r)
    | .neq => match aeq P t a b h with
      | none => none
      | some r => some (.bool (!r))
    | _ => none
theorem abin_ok {op : BinOp} {t : TypeId} {x y : Operand} {a b a' b' v : Value} (R : Rel P W K J φ h w) (e : abin P op t x y a b h = some v) (ha : VR φ a a') (hb : VR φ b b') :
    ∃ v', (do eqGuard op t x y a' b'; binOp op t a' b' : Sem Value).run P w = .ok v' w ∧ VR φ v v' := by
  unfold abin at e
  split at e
  · rename_i hc
    have := clean_eq hc.1 ha
    subst this
    have := clean_eq hc.2 hb
    subst this
    split at e
    · cases e
    · rename_i u hu
      split at e
      · rename_i hcu
        cases e
        exact ⟨_, pureRun_run P w _ _ hu, clean_self hcu⟩
      · cases e
  · split at e
    · rename_i u hu
      cases e
      exact asym_ok w hu ha hb
    split at e
    · rename_i c d
      split at e
      case isFalse => cases e
      rename_i he
      cases e
      obtain ⟨c', rfl, hc⟩ := ha.agg_inv
      obtain ⟨d', rfl, hd⟩ := hb.agg_inv
      obtain ⟨k1, k2⟩ := aarrEq_ok w he hc hd
      refine ⟨.bool true, ?_, .flat rfl⟩
      rw [Sem.run_bind, k2, Result.andThen_ok]
      show (do pure (Value.bool (← Op.equal t (.agg c') (.agg d'))) : Sem Value).run P w = _
      rw [Sem.run_bind, k1]; rfl
    · rename_i c d
      split at e
      case isFalse => cases e
      rename_i he
      cases e
      obtain ⟨c', rfl, hc⟩ := ha.agg_inv
      obtain ⟨d', rfl, hd⟩ := hb.agg_inv
      obtain ⟨k1, k2⟩ := aarrEq_ok w he hc hd
      refine ⟨.bool false, ?_, .flat rfl⟩
      rw [Sem.run_bind, k2, Result.andThen_ok]
      show (do pure (Value.bool (!(← Op.equal t (.agg c') (.agg d')))) : Sem Value).run P w = _
      rw [Sem.run_bind, k1]; rfl
    split at e
    · split at e
      · cases e
      · rename_i r hr
        cases e
        obtain ⟨h1, h2, h3, h4, h5, h6, h7⟩ := aeq_ok R hr ha hb
        refine ⟨.bool r, ?_, .flat rfl⟩
        rw [Sem.run_bind, h2, Result.andThen_ok]
        have : binOp .eql t a' b' = (do pure (.bool (← Op.equal t a' b'))) := by
          cases a' <;> first | rfl | (exact absurd rfl (h4 _ _)) | (exact absurd rfl (h5 _ _)) | (exact absurd rfl (h6 _ _ _)) | (exact absurd rfl (h7 _))
        rw [this, Sem.run_bind, h1]; rfl
    · split at e
      · cases e
      · rename_i r hr
        cases e
        obtain ⟨h1, h2, h3, h4, h5, h6, h7⟩ := aeq_ok R hr ha hb
        refine ⟨.bool (!r), ?_, .flat rfl⟩
        rw [Sem.run_bind, h2, Result.andThen_ok]
        have : binOp .neq t a' b' = (do pure (.bool (!(← Op.equal t a' b')))) := by
          cases a' <;> first | rfl | (exact absurd rfl (h4 _ _)) | (exact absurd rfl (h5 _ _)) | (exact absurd rfl (h6 _ _ _)) | (exact absurd rfl (h7 _))
        rw [this, Sem.run_bind, h1]; rfl
    · cases e
end
end Go.Ab
