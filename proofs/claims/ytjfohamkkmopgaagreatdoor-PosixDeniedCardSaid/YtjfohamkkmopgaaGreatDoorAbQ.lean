/- The abstract evaluator: make, copy, maps, comparisons, conversions, type assertions; and that the model's do what they tell. The abstract evaluator: comparisons, conversions, type assertions, checks; and that the model's do what they tell. The abstract evaluator: each operation, and that the model's does what it tells. The abstract evaluator: one operation of the model's code, and that the model's comes to what it tells. The abstract evaluator: a frame's slots; operations one behind the other; and that the model's come to what they tell. -/
import Derived.Test.YtjfohamkkmopgaaGreatDoorAbP
import Derived.ChangeKeysEq
namespace Go.Ab
open Go.RowKit
set_option linter.unusedVariables false
set_option linter.unusedSectionVars false

section
variable [Sg] {P : Program} {W : World} {K : Nat} {J : Nat → Option Obj} {φ : Map} {h h' : AHeap} {w : World}

/-! ### make -/
/-- A tree with the same thing everywhere. -/
def fullT : Nat → Value → PT Value
  | 0, _ => .nil
  | k + 1, u => .node (some u) (fullT k u) (fullT k u)
omit [Sg] in
theorem fullT_get (u : Value) : ∀ (k i : Nat) (v : Value), (fullT k u).get i = some v → v = u
  | 0, i, v, h => by cases h
  | k + 1, i, v, h => by
    simp only [fullT, PT.get_node] at h
    split at h
    · cases h; rfl
    · split at h
      · exact fullT_get u k _ v h
      · exact fullT_get u k _ v h
/-- A row, as a tree; built as far as it is looked at. -/
def alt {α : Type} : List α → List α
  | [] => []
  | [a] => [a]
  | a :: _ :: l => a :: alt l
omit [Sg] in
theorem alt_get {α : Type} : ∀ (l : List α) (i : Nat), (alt l)[i]? = l[2 * i]?
  | [], i => by simp [alt]
  | [a], i => by cases i <;> simp [alt]
  | a :: b :: l, 0 => by simp [alt]
  | a :: b :: l, i + 1 => by simp only [alt, List.getElem?_cons_succ]; rw [alt_get l i, show 2 * (i + 1) = 2 * i + 1 + 1 by omega]; simp
def rowM {α : Type} : Nat → List α → PT α
  | 0, _ => .nil
  | _ + 1, [] => .nil
  | k + 1, a :: r => .node (some a) (rowM k (alt r)) (rowM k (alt r.tail))
omit [Sg] in
theorem rowM_get {α : Type} : ∀ (k : Nat) (l : List α) (i : Nat), i + 1 < 2 ^ k → (rowM k l).get i = l[i]?
  | 0, l, i, h => by omega
  | k + 1, [], i, h => by simp [rowM]
  | k + 1, a :: r, i, h => by
    show (PT.node (some a) (rowM k (alt r)) (rowM k (alt r.tail))).get i = _
    rw [PT.get_node]
    rw [Nat.pow_succ] at h
    split
    · rename_i h0; subst h0; rfl
    · split
      · rename_i h0 h1
        rw [rowM_get k _ _ (by omega), alt_get]
        obtain ⟨j, rfl⟩ : ∃ j, i = j + 1 := ⟨i - 1, by omega⟩
        rw [List.getElem?_cons_succ]
        congr 1; omega
      · rename_i h0 h1
        rw [rowM_get k _ _ (by omega), alt_get]
        obtain ⟨j, rfl⟩ : ∃ j, i = j + 1 := ⟨i - 1, by omega⟩
        rw [List.getElem?_cons_succ, List.getElem?_tail]
        congr 1; omega
/-- A row so many times. -/
def tileL {α : Type} (l : List α) : Nat → List α
  | 0 => []
  | n + 1 => l ++ tileL l n
omit [Sg] in
theorem tileL_get {α : Type} (l : List α) : ∀ (n i : Nat), i < n * l.length → (tileL l n)[i]? = l[i % l.length]?
  | 0, i, h => by omega
  | n + 1, i, h => by
    rw [Nat.add_mul, Nat.one_mul] at h
    simp only [tileL]
    rcases Nat.lt_or_ge i l.length with h1 | h1
    · rw [List.getElem?_append_left h1, Nat.mod_eq_of_lt h1]
    · rw [List.getElem?_append_right h1, tileL_get l n _ (by omega)]
      congr 1
      rw [Nat.mod_eq_sub_mod h1]
/-- Zeros. -/
def zeroT (z : Array Value) (m : Nat) : PT Value := match z.toList with
  | [u] => fullT 20 u
  | l => cond (Nat.blt m 1000000 && Nat.beq (Nat.mul (Nat.div m l.length) l.length) m) (rowM 20 (tileL l (Nat.div m l.length))) (PT.ofList (azeros (if m = 0 then #[] else z) m).toList)
omit [Sg] in
theorem zeroT_get {z : Array Value} {m i : Nat} {v : Value} (hi : i < m) (h : (zeroT z m).get i = some v) : (PT.ofList (azeros (if m = 0 then #[] else z) m).toList).get i = some v := by
  unfold zeroT at h
  split at h
  · rename_i u hz
    have hv := fullT_get u _ _ _ h
    subst hv
    have hz' : z = #[v] := by rw [← Array.toArray_toList (xs := z), hz]
    subst hz'
    rw [PT.get_ofList, if_neg (by omega)]
    simp [azeros, hi, Nat.mod_one]
  · cases hc : (Nat.blt m 1000000 && Nat.beq (Nat.mul (Nat.div m z.toList.length) z.toList.length) m) with
    | false => rw [hc] at h; exact h
    | true =>
      rw [hc] at h
      simp only [cond_true] at h
      simp only [Bool.and_eq_true] at hc
      have h1 : m < 1000000 := by have := hc.1; simp only [Nat.blt] at this; exact Nat.le_of_ble_eq_true this
      have h2 : m / z.toList.length * z.toList.length = m := Nat.eq_of_beq_eq_true hc.2
      rw [rowM_get 20 _ i (by omega)] at h
      have h3 : (tileL z.toList (Nat.div m z.toList.length))[i]? = z.toList[i % z.toList.length]? := tileL_get z.toList _ _ (by rw [show Nat.div m z.toList.length = m / z.toList.length from rfl, h2]; exact hi)
      rw [h3] at h
      rw [PT.get_ofList, if_neg (by omega)]
      simp only [azeros, Array.toList_map, Array.toList_range, List.getElem?_map, List.getElem?_range hi, Option.map_some]
      simp only [Array.length_toList, Array.getElem?_toList] at h
      rw [getElem!_def, h]
def amakeSlice (P : Program) (t : TypeId) (vl vc : Value) (h : AHeap) : Option (Value × AHeap) :=
  match vl, vc with
  | .int _ l, .int _ c => match P.underlying t with
    | some (.slice elem) => match P.info? elem with
      | none => none
      | some i => match i.zero with
        | none => none
        | some z => if 0 ≤ l ∧ l ≤ c ∧ c * i.bytes ≤ 2 ^ 48 ∧ c < 2 ^ 62 ∧ z.cells.toList.all noAddr = true ∧ 0 < z.cells.size then
            some (.slice (some ⟨h.next, 0, none⟩) l.toNat c.toNat, h.new (.cells (zeroT z.cells (c.toNat * i.size)) (c.toNat * i.size) elem))
          else none
    | _ => none
  | _, _ => none
theorem wrap_in {n : Int} (h0 : 0 ≤ n) (h1 : n < 2 ^ 63) : IntKind.i64.wrap n = n := by
  have e : n % (2 ^ IntKind.i64.bits : Int) = n := Int.emod_eq_of_lt h0 (by have : (2 ^ IntKind.i64.bits : Int) = 2 ^ 64 := rfl; omega)
  unfold IntKind.wrap
  simp only [e]
  rw [if_neg]
  have : (2 ^ (IntKind.i64.bits - 1) : Int) = 2 ^ 63 := rfl
  simp only [this, Bool.and_eq_true, decide_eq_true_eq, not_and]
  intro _
  omega
theorem amakeSlice_ok {t : TypeId} {vl vc vl' vc' v : Value} (R : Rel P W K J φ h w) (e : amakeSlice P t vl vc h = some (v, h')) (hl : VR φ vl vl') (hc : VR φ vc vc') :
    ∃ ψ w' v', φ.le ψ ∧ (Instr.makeSlice t vl' vc').run P w = .ok v' w' ∧ Rel P W K J ψ h' w' ∧ VR ψ v v' := by
  unfold amakeSlice at e
  split at e
  case h_2 => cases e
  rename_i kl l kc c
  have := hl.flat_inv rfl
  subst this
  have := hc.flat_inv rfl
  subst this
  split at e
  case h_2 => cases e
  rename_i elem hu
  split at e
  · cases e
  rename_i i hi
  split at e
  · cases e
  rename_i z hz
  split at e
  case isFalse => cases e
  rename_i hcond
  obtain ⟨c1, c2, c3, c4, c5, c6⟩ := hcond
  cases e
  have hlw : IntKind.i64.wrap l = l := wrap_in c1 (by omega)
  have hcw : IntKind.i64.wrap c = c := wrap_in (by omega) (by omega)
  have hzz : VRs φ (azeros (if c.toNat * i.size = 0 then #[] else z.cells) (c.toNat * i.size)).toList (azeros (if c.toNat * i.size = 0 then #[] else z.cells) (c.toNat * i.size)).toList := by
    refine VRs.of_flat (azeros_flat ?_ ?_)
    · split
      · rfl
      · exact c5
    · by_cases h0 : c.toNat * i.size = 0
      · exact .inr h0
      · rw [if_neg h0]; exact .inl c6
  obtain ⟨ψ, k1, k2, k3, k4⟩ := R.newRow hzz elem 0 #[] false (fun h => by cases h)
  have hsz : (azeros (if c.toNat * i.size = 0 then #[] else z.cells) (c.toNat * i.size)).toList.length = c.toNat * i.size := by simp [azeros]
  rw [hsz] at k2 k4
  have e2 : (azeros (if c.toNat * i.size = 0 then #[] else z.cells) (c.toNat * i.size)).toList.toArray ++ #[] = azeros (if c.toNat * i.size = 0 then #[] else z.cells) (c.toNat * i.size) := by simp
  rw [e2] at k3 k4
  have k4 : Rel P W K J ψ (h.new (.cells (zeroT z.cells (c.toNat * i.size)) (c.toNat * i.size) elem)) (w.alloc (Obj.cells (azeros (if c.toNat * i.size = 0 then #[] else z.cells) (c.toNat * i.size)) elem)) := by
    refine (k4.recell (B := h.next) (N := c.toNat * i.size) (c' := zeroT z.cells (c.toNat * i.size)) (by simp only [AHeap.new, PT.get_set_eq]; rfl) k2 (by simp) (fun j u hj hu => ⟨hj, zeroT_get hj hu⟩)).congr (fun B => ?_) rfl rfl
    simp only [AHeap.new, PT.get_set]
    split <;> rfl
  refine ⟨ψ, _, .slice (some ⟨w.heap.size, 0, none⟩) l.toNat c.toNat, k1, ?_, k4, .slice (a := ⟨h.next, 0, none⟩) k2 rfl (by omega) (Nat.le_refl _) (.inl rfl) (.inl (by simp))⟩
  have hb1 : ¬ ((i.bytes : Int) * c > 2 ^ 48) := by rw [Int.mul_comm]; omega
  simp only [Instr.makeSlice, Sem.run_bind, run_underlying w hu, Result.andThen_ok, asInt, asIntOf, Sem.run_pure, run_typeInfo w hi, hlw, hcw]
  have hd : (decide (c < 0) || decide ((i.bytes : Int) * c > 2 ^ 48) || decide (l < 0) || decide (l > c)) = false := by
    simp only [Bool.or_eq_false_iff, decide_eq_false_iff_not]
    exact ⟨⟨⟨by omega, hb1⟩, by omega⟩, by omega⟩
  rw [if_neg (by simpa using hd)]
  simp only [Sem.run_bind, run_askRoom, Result.andThen_ok, run_sizeOf w hi]
  unfold azeros at k3
  split
  · rename_i h0
    rw [if_pos h0] at k3
    simp only [Sem.run_bind, Sem.run_pure, Result.andThen_ok, k3]
    rfl
  · rename_i h0
    rw [if_neg h0] at k3
    simp only [Sem.run_bind, Sem.run_pure, Result.andThen_ok, run_zeroValue w hi hz, k3]
    rfl

/-! ### copy -/
def acopy (P : Program) (dt : TypeId) (d s : Value) (h : AHeap) : Option (Value × AHeap) :=
  match P.underlying dt with
  | some (.slice elem) => match P.info? elem with
    | none => none
    | some i => match sliceLen s with
      | none => none
      | some m => match d with
        | .slice (some a) len _ => match srcCells h i.size (Nat.min m len) s with
          | none => none
          | some cs => match h.store a cs with
            | none => none
            | some h1 => some (.int .i64 (Nat.min m len : Nat), h1)
        | _ => none
  | _ => none
theorem acopy_ok {dt ty : TypeId} {ts : Array TypeId} {d d' s s' v : Value} (R : Rel P W K J φ h w) (ht : ts[0]? = some dt) (e : acopy P dt d s h = some (v, h')) (hd : VR φ d d') (hs : VR φ s s') :
    ∃ ψ w' v', φ.le ψ ∧ (Builtin.copy_ ts ty #[d', s']).run P w = .ok v' w' ∧ Rel P W K J ψ h' w' ∧ VR ψ v v' := by
  unfold acopy at e
  split at e
  case h_2 => cases e
  rename_i elem hu
  split at e
  · cases e
  rename_i i hi
  split at e
  · cases e
  rename_i m hm
  split at e
  case h_2 => cases e
  rename_i a len cap
  obtain ⟨x, cap', o, hx, hsp, hl1, hl2, hg, ho, rfl⟩ := hd.slice_inv
  split at e
  · cases e
  rename_i cs hcs
  split at e
  · cases e
  rename_i h1 hst
  cases e
  have hmin : Nat.min m len ≤ m := Nat.min_le_left _ _
  have hmin2 : Nat.min m len ≤ len := Nat.min_le_right _ _
  obtain ⟨cs', hrun, hv, hlen⟩ := firstCells_ok R hcs hs (fun k hk => by rw [hm] at hk; cases hk; exact hmin)
  obtain ⟨w', hrun2, R'⟩ := R.store hst hx hv
  refine ⟨φ, w', goInt (Nat.min m len), φ.le_refl, ?_, R', .flat rfl⟩
  have hlen' := sliceLen_eq (P := P) hm hs w
  unfold Builtin.copy_
  simp only [ht, List.getElem?_toArray, List.getElem?_cons_zero, List.getElem?_cons_succ, Sem.run_bind, run_underlying w hu, Result.andThen_ok, hlen', run_sizeOf w hi, hrun]
  rcases ho with ho | ho
  · subst ho
    simp only [hrun2, Result.andThen_ok, Sem.run_pure]
  · have h0 : Nat.min m len = 0 := by omega
    rw [h0, Nat.zero_mul] at hlen
    have : cs = [] := List.length_eq_zero_iff.1 hlen
    subst this
    cases hv
    simp only [storeCells, Sem.run_pure, Result.ok.injEq] at hrun2 ⊢
    rw [hrun2.2]
    simp only [Result.andThen_ok]

/-! ### maps -/
def plainKey : Value → Bool
  | .int _ _ | .string _ | .bool _ => true
  | _ => false
theorem checkKey_plain {t : TypeId} {k : Value} (w : World) (b : Bool) (n : Nat) (hk : plainKey k = true) (hu : ∃ d, P.underlying t = some d ∧ (∀ ms, d ≠ .interface ms) ∧ (∀ l e, d ≠ .array l e) ∧ ∀ fs, d ≠ .struct fs) :
    (Instr.checkKey b (n + 1) t k).run P w = .ok () w := by
  obtain ⟨d, hd, h1, h2, h3⟩ := hu
  simp only [Instr.checkKey, Sem.run_bind, run_underlying w hd, Result.andThen_ok]
  cases d <;> first | (exact absurd rfl (h1 _)) | (exact absurd rfl (h2 _ _)) | (exact absurd rfl (h3 _)) | (cases k <;> first | rfl | (simp [plainKey] at hk; done))

theorem findNow_ok {kind : TypeDesc} {k : Value} (hk : plainKey k = true) : ∀ (es es' : List MapEntry) (i : Nat), ERs φ es es' → ∀ r, Instr.findNow kind k es i = some r →
    (r = none → Instr.findNow kind k es' i = some none) ∧ ∀ j v, r = some (j, v) → ∃ v', Instr.findNow kind k es' i = some (some (j, v')) ∧ VR φ v v' := by
  intro es es' i he
  induction he generalizing i with
  | nil => intro r e; simp only [Instr.findNow, Option.some.injEq] at e; subst e; exact ⟨fun _ => rfl, fun j v h => by cases h⟩
  | @cons x y l l' h1 h2 h3 _ ih =>
    intro r e
    simp only [Instr.findNow] at e
    have hkey : ∀ b, Instr.sameNow kind k x.key = some b → y.key = x.key := by
      intro b hb
      refine h1.flat_inv ?_
      cases hx : x.key <;> first | rfl | (rw [hx] at hb; cases kind <;> cases k <;> simp [Instr.sameNow] at hb)
    split at e
    · rename_i hs
      cases e
      refine ⟨fun h => (by cases h), fun j v h => ?_⟩
      cases h
      exact ⟨y.val, by simp only [Instr.findNow, hkey _ hs, hs], h2⟩
    · rename_i hs
      obtain ⟨g1, g2⟩ := ih (i + 1) r e
      refine ⟨fun h => ?_, fun j v h => ?_⟩
      · simp only [Instr.findNow, hkey _ hs, hs]; exact g1 h
      · obtain ⟨v', g3, g4⟩ := g2 j v h
        exact ⟨v', by simp only [Instr.findNow, hkey _ hs, hs]; exact g3, g4⟩
    · cases e

def keyOk (P : Program) (t : TypeId) (k : Value) : Option TypeDesc :=
  match P.underlying t with
  | some (.int i) => match k with | .int _ _ => some (.int i) | _ => none
  | some .string => match k with | .string _ => some .string | _ => none
  | some .bool => match k with | .bool _ => some .bool | _ => none
  | _ => none
theorem keyOk_spec {t : TypeId} {k : Value} {d : TypeDesc} (e : keyOk P t k = some d) : P.underlying t = some d ∧ plainKey k = true ∧ (∀ ms, d ≠ .interface ms) ∧ (∀ l e, d ≠ .array l e) ∧ ∀ fs, d ≠ .struct fs := by
  unfold keyOk at e
  split at e <;> first | (cases e; done) | skip
  all_goals (rename_i hu; split at e <;> first | (cases e; done) | skip; cases e; exact ⟨hu, rfl, nofun, nofun, nofun⟩)

def alookup (P : Program) (t : TypeId) (m k : Value) (ok : Bool) (h : AHeap) : Option Value :=
  match P.underlying t with
  | some (.map kt et) => match keyOk P kt k with
    | none => none
    | some d => match P.info? et with
      | none => none
      | some i => match i.zero with
        | none => none
        | some z => if noAddr z = true ∨ z.cells.toList.all noAddr = true then
            match m with
            | .map none => some (if ok then .tuple #[z, .bool false] else z)
            | .map (some r) => match h.m.get r with
              | some (.map es _) => match Instr.findNow d k es 0 with
                | none => none
                | some none => some (if ok then .tuple #[z, .bool false] else z)
                | some (some (_, v)) => some (if ok then .tuple #[v, .bool true] else v)
              | _ => none
            | _ => none
          else none
  | _ => none
theorem zero_VR {z : Value} (hz : noAddr z = true ∨ z.cells.toList.all noAddr = true) : VR φ z z := by
  rcases hz with hz | hz
  · exact .flat hz
  · have := VRs.of_flat (φ := φ) hz
    cases z with
    | agg c => exact .of_aggs this
    | _ => exact (by simp only [Value.cells] at this; cases this; assumption)
theorem pair_VR {v v' : Value} (hv : VR φ v v') (b : Bool) : VR φ (.tuple #[v, .bool b]) (.tuple #[v', .bool b]) := .of_tuples (.cons hv (.cons (.flat rfl) .nil))
theorem alookup_ok {t : TypeId} {m m' k k' v : Value} {ok : Bool} (R : Rel P W K J φ h w) (e : alookup P t m k ok h = some v) (hm : VR φ m m') (hk : VR φ k k') :
    ∃ v', (Instr.lookup t m' k' ok).run P w = .ok v' w ∧ VR φ v v' := by
  unfold alookup at e
  split at e
  case h_2 => cases e
  rename_i kt et hu
  split at e
  · cases e
  rename_i d hd
  obtain ⟨hud, hpl, hne⟩ := keyOk_spec hd
  have hkk : k' = k := hk.flat_inv (by cases k <;> first | rfl | (simp [plainKey] at hpl))
  subst hkk
  split at e
  · cases e
  rename_i i hi
  split at e
  · cases e
  rename_i z hz
  split at e
  case isFalse => cases e
  rename_i hzf
  have hzv : VR φ z z := zero_VR hzf
  have hck : ∀ b, (Instr.checkKey b 10000 kt k').run P w = .ok () w := fun b => checkKey_plain w b 9999 hpl ⟨d, hud, hne⟩
  split at e
  · have := hm.flat_inv rfl
    subst this
    cases e
    refine ⟨if ok = true then .tuple #[z, .bool false] else z, ?_, ?_⟩
    · simp only [Instr.lookup, Sem.run_bind, run_underlying w hu, Result.andThen_ok, Sem.run_pure, hck, Instr.findKey, run_underlying w hud, Instr.findNow, run_zeroValue w hi hz]
    · split
      · exact pair_VR hzv false
      · exact hzv
  · rename_i r
    obtain ⟨x, hx, rfl⟩ := hm.map_inv
    split at e
    case h_2 => cases e
    rename_i es clock hes
    obtain ⟨y, hy, es', g1, g2⟩ := R.obj _ _ hes
    rw [hx] at hy; cases hy
    have hget : (getObj x.b).run P w = .ok (.map es' clock) w := by simp [getObj, Sem.run, g1]
    split at e
    · cases e
    · rename_i hf
      cases e
      have := (findNow_ok hpl es es'.toList 0 g2 _ hf).1 rfl
      refine ⟨if ok = true then .tuple #[z, .bool false] else z, ?_, ?_⟩
      · simp only [Instr.lookup, Sem.run_bind, run_underlying w hu, Result.andThen_ok, hget, Sem.run_pure, hck, Instr.findKey, run_underlying w hud, this, run_zeroValue w hi hz]
      · split
        · exact pair_VR hzv false
        · exact hzv
    · rename_i j u hf
      cases e
      obtain ⟨u', g3, g4⟩ := (findNow_ok hpl es es'.toList 0 g2 _ hf).2 j u rfl
      refine ⟨if ok = true then .tuple #[u', .bool true] else u', ?_, ?_⟩
      · simp only [Instr.lookup, Sem.run_bind, run_underlying w hu, Result.andThen_ok, hget, Sem.run_pure, hck, Instr.findKey, run_underlying w hud, g3]
      · split
        · exact pair_VR g4 true
        · exact g4
  · cases e

/-- One thing of the memory that is no row of cells, written. -/
theorem Rel.setMap (R : Rel P W K J φ h w) {r clock clock0 : Nat} {x : At} {es es0 : List MapEntry} {es' : Array MapEntry} (hr : h.m.get r = some (.map es0 clock0)) (hro : h.ro ≤ r) (hx : φ r = some x)
    (he : ERs φ es es'.toList) : (setObj x.b (.map es' clock)).run P w = .ok () { w with heap := w.heap.setIfInBounds x.b (.map es' clock) } ∧
    Rel P W K J φ { h with m := h.m.set r (.map es clock) } { w with heap := w.heap.setIfInBounds x.b (.map es' clock) } := by
  obtain ⟨y, hy, es1, g1, g2⟩ := R.obj _ _ hr
  rw [hx] at hy; cases hy
  have hlt := R.live_lt hr rfl hx
  have hheap : ∀ k, (w.heap.setIfInBounds x.b (.map es' clock))[k]? = if k = x.b then some (.map es' clock) else w.heap[k]? := by
    intro k
    rw [Array.getElem?_setIfInBounds]
    by_cases hk : x.b = k
    · subst hk; rw [if_pos rfl, if_pos rfl, if_pos hlt]
    · rw [if_neg hk, if_neg (fun h => hk h.symm)]
  refine ⟨by simp [setObj, Sem.run, g1], ?_⟩
  refine ⟨?_, ?_, R.dom, ?_, R.old, R.self, R.ro, ?_, ?_⟩
  · refine ⟨R.below.os, R.below.tape, R.below.output, by simpa using R.below.size, fun k hk => ?_⟩
    have := R.old _ _ hx hro
    show (w.heap.setIfInBounds x.b (.map es' clock))[k]? = _
    rw [hheap, if_neg (by omega)]
    exact R.below.block k hk
  · intro D o hD
    rw [PT.get_set] at hD
    by_cases hBD : r = D
    · subst hBD
      rw [if_pos rfl] at hD; cases hD
      exact ⟨x, hx, es', by rw [hheap, if_pos rfl], he⟩
    · rw [if_neg hBD] at hD
      obtain ⟨y, hy, hobj⟩ := R.obj D o hD
      refine ⟨y, hy, ?_⟩
      cases o with
      | dead => trivial
      | map es clock =>
        have hne : y.b ≠ x.b := fun e => hBD (R.inj r D x y _ _ hr hD rfl rfl hx hy e.symm)
        obtain ⟨es', k1, k2⟩ := hobj
        exact ⟨es', by rw [hheap, if_neg hne]; exact k1, k2⟩
      | cells c' n' e' =>
        have hne : y.b ≠ x.b := fun e => hBD (R.inj r D x y _ _ hr hD rfl rfl hx hy e.symm)
        obtain ⟨C', f', E', k1, k2⟩ := hobj
        exact ⟨C', f', E', by rw [hheap, if_neg hne]; exact k1, k2⟩
  · intro D E y z o p hD hE l1 l2 e1 e2 e3
    rw [PT.get_set] at hD hE
    by_cases hBD : r = D
    · by_cases hBE : r = E
      · rw [← hBD, ← hBE]
      · rw [if_neg hBE] at hE
        rw [hBD] at hr
        exact R.inj D E y z _ p hr hE rfl l2 e1 e2 e3
    · rw [if_neg hBD] at hD
      by_cases hBE : r = E
      · rw [hBE] at hr
        exact R.inj D E y z o _ hD hr l1 rfl e1 e2 e3
      · rw [if_neg hBE] at hE
        exact R.inj D E y z o p hD hE l1 l2 e1 e2 e3
  · intro b O hb
    obtain ⟨j1, j2⟩ := R.junk b O hb
    exact ⟨by rw [hheap, if_neg (fun e => j2 r x hx hro e.symm)]; exact j1, j2⟩
  · intro B y c n E e1 e2 e3
    rw [PT.get_set] at e3
    split at e3
    · cases e3
    · exact R.es B y c n E e1 e2 e3

theorem ERs.length {l l' : List MapEntry} (r : ERs φ l l') : l.length = l'.length := by
  induction r with
  | nil => rfl
  | cons _ _ _ _ ih => simp [ih]
theorem ERs.push {l l' : List MapEntry} (r : ERs φ l l') {x y : MapEntry} (h1 : VR φ x.key y.key) (h2 : VR φ x.val y.val) (h3 : x.born = y.born) : ERs φ (l ++ [x]) (l' ++ [y]) := by
  induction r with
  | nil => exact .cons h1 h2 h3 .nil
  | cons a b c _ ih => exact .cons a b c ih
theorem ERs.modify {l l' : List MapEntry} (r : ERs φ l l') {f g : MapEntry → MapEntry} (hfg : ∀ x y : MapEntry, VR φ x.key y.key → VR φ x.val y.val → x.born = y.born → VR φ (f x).key (g y).key ∧ VR φ (f x).val (g y).val ∧ (f x).born = (g y).born) :
    ∀ i : Nat, ERs φ (l.modify i f) (l'.modify i g) := by
  induction r with
  | nil => intro i; simp; exact .nil
  | cons a b c r ih =>
    intro i
    cases i with
    | zero => obtain ⟨h1, h2, h3⟩ := hfg _ _ a b c; simpa using ERs.cons h1 h2 h3 r
    | succ i => simpa using ERs.cons a b c (ih i)
theorem ERs.erase {l l' : List MapEntry} (r : ERs φ l l') : ∀ i : Nat, ERs φ (l.eraseIdx i) (l'.eraseIdx i) := by
  induction r with
  | nil => intro i; simp; exact .nil
  | cons a b c r ih =>
    intro i
    cases i with
    | zero => simpa using r
    | succ i => simpa using ERs.cons a b c (ih i)

theorem findNow_key {d : TypeDesc} {k : Value} : ∀ (es : List MapEntry) (i j : Nat) (v : Value), Instr.findNow d k es i = some (some (j, v)) → ∃ e, es[j - i]? = some e ∧ i ≤ j ∧ Instr.sameNow d k e.key = some true := by
  intro es
  induction es with
  | nil => intro i j v h; simp [Instr.findNow] at h
  | cons e es ih =>
    intro i j v h
    simp only [Instr.findNow] at h
    split at h
    · rename_i hs
      cases h
      exact ⟨e, by simp, Nat.le_refl _, hs⟩
    · obtain ⟨e', h1, h2, h3⟩ := ih _ _ _ h
      refine ⟨e', ?_, by omega, h3⟩
      obtain ⟨m, hm⟩ : ∃ m, j - i = m + 1 := ⟨j - i - 1, by omega⟩
      rw [hm, List.getElem?_cons_succ, ← h1]
      congr 1; omega
    · cases h
theorem sameNow_eq {d : TypeDesc} {k u : Value} (h : Instr.sameNow d k u = some true) : u = k ∧ ∀ n, Instr.sameBits (n + 1) u k = true := by
  cases d <;> cases k <;> cases u <;> simp [Instr.sameNow] at h
  · rw [h]; exact ⟨rfl, fun n => by simp [Instr.sameBits]⟩
  · obtain ⟨h1, h2⟩ := h; rw [h1, h2]; exact ⟨rfl, fun n => by simp [Instr.sameBits]⟩
  · rename_i a b
    have e : a = b := by
      have : (a.data == b.data) = true := h
      exact ByteArray.ext (beq_iff_eq.1 this)
    subst e
    exact ⟨rfl, fun n => by simp only [Instr.sameBits]; exact h⟩

def amapUpdate (P : Program) (t : TypeId) (m k v : Value) (h : AHeap) : Option AHeap :=
  match P.underlying t with
  | some (.map kt _) => match keyOk P kt k with
    | none => none
    | some d => match m with
      | .map (some r) => match h.m.get r with
        | some (.map es clock) => if h.ro ≤ r then match Instr.findNow d k es 0 with
            | none => none
            | some none => some { h with m := h.m.set r (.map (es ++ [{ key := k, val := v, born := clock }]) (clock + 1)) }
            | some (some (i, _)) => some { h with m := h.m.set r (.map (es.modify i fun e => { e with key := k, val := v }) clock) }
          else none
        | _ => none
      | _ => none
  | _ => none
theorem amapUpdate_ok {t : TypeId} {m m' k k' v v' : Value} (R : Rel P W K J φ h w) (e : amapUpdate P t m k v h = some h') (hm : VR φ m m') (hk : VR φ k k') (hv : VR φ v v') :
    ∃ w', (Instr.mapUpdate t m' k' v').run P w = .ok () w' ∧ Rel P W K J φ h' w' := by
  unfold amapUpdate at e
  split at e
  case h_2 => cases e
  rename_i kt et hu
  split at e
  · cases e
  rename_i d hd
  obtain ⟨hud, hpl, hne⟩ := keyOk_spec hd
  have hkk : k' = k := hk.flat_inv (by cases k <;> first | rfl | (simp [plainKey] at hpl))
  subst hkk
  split at e
  case h_2 => cases e
  rename_i r
  obtain ⟨x, hx, rfl⟩ := hm.map_inv
  split at e
  case h_2 => cases e
  rename_i es clock hes
  split at e
  case isFalse => cases e
  rename_i hro
  obtain ⟨y, hy, es', g1, g2⟩ := R.obj _ _ hes
  rw [hx] at hy; cases hy
  have hget : (getObj x.b).run P w = .ok (.map es' clock) w := by simp [getObj, Sem.run, g1]
  have hck : ∀ b, (Instr.checkKey b 10000 kt k').run P w = .ok () w := fun b => checkKey_plain w b 9999 hpl ⟨d, hud, hne⟩
  split at e
  · cases e
  · rename_i hf
    cases e
    have hfn := (findNow_ok hpl es es'.toList 0 g2 _ hf).1 rfl
    obtain ⟨h1, h2⟩ := R.setMap (clock := clock + 1) (es := es ++ [{ key := k', val := v, born := clock }]) (es' := es'.push { key := k', val := v', born := clock }) hes hro hx
      (by rw [Array.toList_push]; exact g2.push hk hv rfl)
    refine ⟨_, ?_, h2⟩
    simp only [Instr.mapUpdate, Sem.run_bind, run_underlying w hu, Result.andThen_ok, hget, hck, Instr.findKey, run_underlying w hud, hfn, Sem.run_pure, h1]
  · rename_i j u hf
    cases e
    obtain ⟨u', hfn, _⟩ := (findNow_ok hpl es es'.toList 0 g2 _ hf).2 j u rfl
    obtain ⟨e0, q1, _, q2⟩ := findNow_key _ _ _ _ hfn
    rw [Nat.sub_zero] at q1
    obtain ⟨q3, q4⟩ := sameNow_eq q2
    have hkey : (((es'[j]?).map (·.key)).getD k') = k' := by
      rw [← Array.getElem?_toList, q1]; simp [q3]
    have hstay : (Instr.keyThatStays (((es'[j]?).map (·.key)).getD k') k').run P w = .ok k' w := by
      rw [hkey]
      unfold Instr.keyThatStays
      have := q4 9999
      rw [q3] at this
      rw [if_pos this]; rfl
    obtain ⟨h1, h2⟩ := R.setMap (clock := clock) (es := es.modify j fun e => { e with key := k', val := v }) (es' := es'.modify j fun e => { e with key := k', val := v' }) hes hro hx
      (by rw [Array.toList_modify]; exact ERs.modify g2 (f := fun e => { e with key := k', val := v }) (g := fun e => { e with key := k', val := v' }) (fun x y a b c => ⟨hk, hv, c⟩) j)
    refine ⟨_, ?_, h2⟩
    simp only [Instr.mapUpdate, Sem.run_bind, run_underlying w hu, Result.andThen_ok, hget, hck, Instr.findKey, run_underlying w hud, hfn, Sem.run_pure, hstay, h1]

def adelete (P : Program) (t : TypeId) (m k : Value) (h : AHeap) : Option AHeap :=
  match P.underlying t with
  | some (.map kt _) => match keyOk P kt k with
    | none => none
    | some d => match m with
      | .map (some r) => match h.m.get r with
        | some (.map es clock) => if h.ro ≤ r then match Instr.findNow d k es 0 with
            | none => none
            | some none => some { h with m := h.m.set r (.map es clock) }
            | some (some (i, _)) => some { h with m := h.m.set r (.map (es.eraseIdx i) clock) }
          else none
        | _ => none
      | _ => none
  | _ => none
theorem adelete_ok {t ty : TypeId} {ts : Array TypeId} {m m' k k' : Value} (R : Rel P W K J φ h w) (ht : ts[0]? = some t) (e : adelete P t m k h = some h') (hm : VR φ m m') (hk : VR φ k k') :
    ∃ w', (Builtin.delete_ ts ty #[m', k']).run P w = .ok (.tuple #[]) w' ∧ Rel P W K J φ h' w' := by
  unfold adelete at e
  split at e
  case h_2 => cases e
  rename_i kt et hu
  split at e
  · cases e
  rename_i d hd
  obtain ⟨hud, hpl, hne⟩ := keyOk_spec hd
  have hkk : k' = k := hk.flat_inv (by cases k <;> first | rfl | (simp [plainKey] at hpl))
  subst hkk
  split at e
  case h_2 => cases e
  rename_i r
  obtain ⟨x, hx, rfl⟩ := hm.map_inv
  split at e
  case h_2 => cases e
  rename_i es clock hes
  split at e
  case isFalse => cases e
  rename_i hro
  obtain ⟨y, hy, es', g1, g2⟩ := R.obj _ _ hes
  rw [hx] at hy; cases hy
  have hget : (getObj x.b).run P w = .ok (.map es' clock) w := by simp [getObj, Sem.run, g1]
  have hck : ∀ b, (Instr.checkKey b 10000 kt k').run P w = .ok () w := fun b => checkKey_plain w b 9999 hpl ⟨d, hud, hne⟩
  split at e
  · cases e
  · rename_i hf
    cases e
    have hfn := (findNow_ok hpl es es'.toList 0 g2 _ hf).1 rfl
    obtain ⟨h1, h2⟩ := R.setMap (clock := clock) (es := es) (es' := es') hes hro hx g2
    refine ⟨_, ?_, h2⟩
    simp only [Builtin.delete_, ht, List.getElem?_toArray, List.getElem?_cons_zero, List.getElem?_cons_succ, Sem.run_bind, run_underlying w hu, Result.andThen_ok, hget, hck, Instr.findKey, run_underlying w hud, hfn, Sem.run_pure, h1]
  · rename_i j u hf
    cases e
    obtain ⟨u', hfn, _⟩ := (findNow_ok hpl es es'.toList 0 g2 _ hf).2 j u rfl
    obtain ⟨h1, h2⟩ := R.setMap (clock := clock) (es := es.eraseIdx j) (es' := es'.eraseIdxIfInBounds j) hes hro hx
      (by
        have : (es'.eraseIdxIfInBounds j).toList = es'.toList.eraseIdx j := by simp
        rw [this]; exact g2.erase j)
    refine ⟨_, ?_, h2⟩
    simp only [Builtin.delete_, ht, List.getElem?_toArray, List.getElem?_cons_zero, List.getElem?_cons_succ, Sem.run_bind, run_underlying w hu, Result.andThen_ok, hget, hck, Instr.findKey, run_underlying w hud, hfn, Sem.run_pure, h1]
end
end Go.Ab
namespace Go.Ab
open Go.RowKit
set_option linter.unusedVariables false
set_option linter.unusedSectionVars false

section
variable [Sg] {P : Program} {W : World} {K : Nat} {J : Nat → Option Obj} {φ : Map} {h h' : AHeap} {w : World}

/-! ### == and != -/
def liveCells (h : AHeap) (B : Nat) : Bool :=
  match h.m.get B with
  | some (.cells _ _ _) => decide (h.ro ≤ B)
  | _ => false

def aeq (P : Program) (t : TypeId) (a b : Value) (h : AHeap) : Option Bool :=
  match P.underlying t, a, b with
  | some (.pointer _), .pointer none, .pointer b => some b.isNone
  | some (.pointer _), .pointer (some _), .pointer none => some false
  | some (.pointer elem), .pointer (some a), .pointer (some b) => match P.info? elem with
    | none => none
    | some i => if i.size ≠ 0 then
        if a.block = b.block then some (a.off == b.off)
        else if liveCells h a.block = true ∧ liveCells h b.block = true then some false else none
      else none
  | some (.interface _), .nilIface, .iface _ _ => some false
  | some (.interface _), .iface _ _, .nilIface => some false
  | some (.interface _), .iface s _, .iface t _ => if s ≠ t then some false else none
  | some (.slice _), .slice none _ _, .slice b _ _ => some b.isNone
  | some (.slice _), .slice (some _) _ _, .slice none _ _ => some false
  | _, _, _ => none

theorem run_sameAddr_ne {a b : Addr} {C D : Array Value} {e f : TypeId} (ha : w.heap[a.block]? = some (.cells C e (0, 0))) (hb : w.heap[b.block]? = some (.cells D f (0, 0))) (hne : a.block ≠ b.block) :
    (sameAddr a b).run P w = .ok false w := by
  have f1 : ∀ (x : Addr) (C : Array Value) (e : TypeId), w.heap[x.block]? = some (.cells C e (0, 0)) → w.frozen? x = false := by
    intro x C e hx; simp [World.frozen?, hx]
  have s1 : ∀ (x : Addr) (C : Array Value) (e : TypeId), w.heap[x.block]? = some (.cells C e (0, 0)) → w.shape? x.block = some (e, C.size) := by
    intro x C e hx; simp [World.shape?, hx]
  have st : ∀ (x : Addr) (C : Array Value) (e : TypeId), w.heap[x.block]? = some (.cells C e (0, 0)) → (stringish x).run P w = .ok false w := by
    intro x C e hx
    simp only [stringish, Sem.run_bind, run_frozen, f1 x C e hx, Result.andThen_ok, Bool.false_eq_true, if_false, run_shape, s1 x C e hx]
    rw [f1 ⟨x.block, C.size, none⟩ C e hx]
  have nv : ∀ (x : Addr) (C : Array Value) (e : TypeId), w.heap[x.block]? = some (.cells C e (0, 0)) → (noView x).run P w = .ok () w := by
    intro x C e hx
    simp only [noView, viewAt, Sem.run_bind, run_shape, s1 x C e hx, Result.andThen_ok, Option.isSome_some, if_true, Sem.run_pure, Option.isSome_none, Bool.false_eq_true, if_false]
  have mb : (mayBeOne a b).run P w = .ok false w := by
    simp only [mayBeOne, Sem.run_bind, st a C e ha, st b D f hb, Result.andThen_ok, run_shape, s1 b D f hb, Sem.run_pure, Bool.false_and, Bool.or_self]
  unfold sameAddr
  have hbeq : (a.block == b.block) = false := beq_eq_false_iff_ne.2 hne
  simp only [hbeq, Bool.false_eq_true, if_false, Sem.run_bind, run_frozen, f1 a C e ha, Result.andThen_ok, Bool.false_and, nv a C e ha, nv b D f hb, mb, Sem.run_pure]

theorem aeq_ok {t : TypeId} {a b a' b' : Value} {r : Bool} (R : Rel P W K J φ h w) (e : aeq P t a b h = some r) (ha : VR φ a a') (hb : VR φ b b') :
    (Op.equal t a' b').run P w = .ok r w ∧ (∀ op x y, (eqGuard op t x y a' b').run P w = .ok () w) ∧ (∀ c, a' ≠ .agg c) ∧ (∀ k n, a' ≠ .int k n) ∧ (∀ k n, a' ≠ .float k n) ∧ (∀ k m n, a' ≠ .complex k m n) ∧ (∀ s, a' ≠ .string s) := by
  unfold aeq at e
  have g : ∀ op x y (a' b' : Value), (¬ (a' = .nilIface ∧ b' = .nilIface)) → (∀ c, a' ≠ .agg c) → (eqGuard op t x y a' b').run P w = .ok () w := by
    intro op x y a' b' h1 h2
    cases op <;> first
      | rfl
      | (cases a' <;> first | (exact absurd rfl (h2 _)) | (cases b' <;> first | (exact absurd ⟨rfl, rfl⟩ h1) | rfl))
  split at e
  · rename_i hu
    have := ha.flat_inv rfl
    subst this
    cases e
    refine ⟨?_, fun op x y => g op x y _ _ (fun h => by cases h.1) nofun, nofun, nofun, nofun, nofun, nofun⟩
    cases hb with
    | flat hf =>
      rename_i o
      cases o with
      | none => (show (Op.equalIn (9999 + 1) t _ _).run P w = _; generalize 9999 = d; simp only [Op.equalIn, Sem.run_bind, run_underlying w hu, Result.andThen_ok, Sem.run_pure])
      | some => simp [noAddr] at hf
    | ptr => (show (Op.equalIn (9999 + 1) t _ _).run P w = _; generalize 9999 = d; simp only [Op.equalIn, Sem.run_bind, run_underlying w hu, Result.andThen_ok, Sem.run_pure, Option.isNone_some])
  · rename_i hu
    obtain ⟨x, hx, hs, rfl⟩ := ha.ptr_inv
    have := hb.flat_inv rfl
    subst this
    cases e
    refine ⟨?_, fun op x y => g op x y _ _ (fun h => by cases h.1) nofun, nofun, nofun, nofun, nofun, nofun⟩
    (show (Op.equalIn (9999 + 1) t _ _).run P w = _; generalize 9999 = d; simp only [Op.equalIn, Sem.run_bind, run_underlying w hu, Result.andThen_ok, Sem.run_pure])
  · rename_i elem a b hu
    obtain ⟨x, hx, hs, rfl⟩ := ha.ptr_inv
    obtain ⟨y, hy, hs2, rfl⟩ := hb.ptr_inv
    refine ⟨?_, fun op x y => g op x y _ _ (fun h => by cases h.1) nofun, nofun, nofun, nofun, nofun, nofun⟩
    split at e
    · cases e
    rename_i i hi
    split at e
    case isFalse => cases e
    rename_i hsz
    (show (Op.equalIn (9999 + 1) t _ _).run P w = _; generalize 9999 = d; simp only [Op.equalIn, Sem.run_bind, run_underlying w hu, Result.andThen_ok, run_sizeOf w hi])
    rw [if_pos hsz]
    split at e
    · rename_i hbl
      cases e
      have hxy : x = y := by rw [hbl] at hx; rw [hx] at hy; exact Option.some.inj hy
      subst hxy
      unfold sameAddr
      simp only [beq_self_eq_true, if_true, Sem.run_pure]
      congr 1
      by_cases ho : a.off = b.off
      · rw [ho]; simp
      · have h1 : (a.off == b.off) = false := beq_eq_false_iff_ne.2 ho
        rw [h1]
        refine beq_eq_false_iff_ne.2 fun h => ?_
        simp only [Addr.mk.injEq] at h
        omega
    · rename_i hbl
      split at e
      case isFalse => cases e
      rename_i hl
      cases e
      obtain ⟨hl1, hl2⟩ := hl
      unfold liveCells at hl1 hl2
      split at hl1
      · rename_i c1 n1 e1 h1
        split at hl2
        · rename_i c2 n2 e2 h2
          obtain ⟨x', C, f1, E1, hx', k1, q1, _⟩ := R.cells h1
          rw [hx] at hx'; cases hx'
          obtain ⟨y', D, f2, E2, hy', k2, q2, _⟩ := R.cells h2
          rw [hy] at hy'; cases hy'
          obtain ⟨rfl, rfl⟩ := q1 (by simpa using hl1)
          obtain ⟨rfl, rfl⟩ := q2 (by simpa using hl2)
          exact run_sameAddr_ne (a := ⟨x.b, a.off + x.d, none⟩) (b := ⟨y.b, b.off + y.d, none⟩) k1 k2 (fun e => hbl (R.inj _ _ x y _ _ h1 h2 rfl rfl hx hy e))
        · cases hl2
      · cases hl1
  · rename_i hu
    have := ha.flat_inv rfl
    subst this
    obtain ⟨u, rfl, _⟩ := hb.iface_inv
    cases e
    refine ⟨?_, fun op x y => g op x y _ _ (fun h => by cases h.2) nofun, nofun, nofun, nofun, nofun, nofun⟩
    (show (Op.equalIn (9999 + 1) t _ _).run P w = _; generalize 9999 = d; simp only [Op.equalIn, Sem.run_bind, run_underlying w hu, Result.andThen_ok, Sem.run_pure])
  · rename_i hu
    have := hb.flat_inv rfl
    subst this
    obtain ⟨u, rfl, _⟩ := ha.iface_inv
    cases e
    refine ⟨?_, fun op x y => g op x y _ _ (fun h => by cases h.1) nofun, nofun, nofun, nofun, nofun, nofun⟩
    (show (Op.equalIn (9999 + 1) t _ _).run P w = _; generalize 9999 = d; simp only [Op.equalIn, Sem.run_bind, run_underlying w hu, Result.andThen_ok, Sem.run_pure])
  · rename_i hu
    obtain ⟨u, rfl, _⟩ := ha.iface_inv
    obtain ⟨v, rfl, _⟩ := hb.iface_inv
    split at e
    case isFalse => cases e
    rename_i hne
    cases e
    refine ⟨?_, fun op x y => g op x y _ _ (fun h => by cases h.1) nofun, nofun, nofun, nofun, nofun, nofun⟩
    (show (Op.equalIn (9999 + 1) t _ _).run P w = _; generalize 9999 = d; simp only [Op.equalIn, Sem.run_bind, run_underlying w hu, Result.andThen_ok])
    rw [if_pos hne]
    rfl
  · rename_i hu
    have := ha.flat_inv rfl
    subst this
    cases e
    refine ⟨?_, fun op x y => g op x y _ _ (fun h => by cases h.1) nofun, nofun, nofun, nofun, nofun, nofun⟩
    cases hb with
    | flat hf =>
      rename_i o _ _
      cases o with
      | none => (show (Op.equalIn (9999 + 1) t _ _).run P w = _; generalize 9999 = d; simp only [Op.equalIn, Sem.run_bind, run_underlying w hu, Result.andThen_ok, Sem.run_pure])
      | some => simp [noAddr] at hf
    | slice => (show (Op.equalIn (9999 + 1) t _ _).run P w = _; generalize 9999 = d; simp only [Op.equalIn, Sem.run_bind, run_underlying w hu, Result.andThen_ok, Sem.run_pure, Option.isNone_some])
  · rename_i hu
    obtain ⟨x, cap', o, _, _, _, _, _, _, rfl⟩ := ha.slice_inv
    have := hb.flat_inv rfl
    subst this
    cases e
    refine ⟨?_, fun op x y => g op x y _ _ (fun h => by cases h.1) nofun, nofun, nofun, nofun, nofun, nofun⟩
    (show (Op.equalIn (9999 + 1) t _ _).run P w = _; generalize 9999 = d; simp only [Op.equalIn, Sem.run_bind, run_underlying w hu, Result.andThen_ok, Sem.run_pure])
  · cases e

def isSy (v : Value) : Bool :=
  match v with
  | .chan (some _) => true
  | v => noAddr v
def asym (P : Program) (op : BinOp) (t : TypeId) (a b : Value) : Option Value :=
  if isSy a = true ∧ isSy b = true then Sg.bin P op t a b else none
theorem isSy_or {v : Value} (h : isSy v = true) : noAddr v = true ∨ ∃ i, v = .chan (some i) := by
  cases v <;> first | exact .inl h | (rename_i o; cases o <;> first | exact .inr ⟨_, rfl⟩ | exact .inl h) | (simp [isSy, noAddr] at h)
theorem asym_ok {op : BinOp} {t : TypeId} {x y : Operand} {a b a' b' v : Value} (w : World) (e : asym P op t a b = some v) (ha : VR φ a a') (hb : VR φ b b') :
    ∃ v', (do eqGuard op t x y a' b'; binOp op t a' b' : Sem Value).run P w = .ok v' w ∧ VR φ v v' := by
  unfold asym at e
  split at e
  case isFalse => cases e
  rename_i h
  obtain ⟨v', h1, h2⟩ := Sg.ok P w op t x y a b v a' b' e (ha.sy (isSy_or h.1)) (hb.sy (isSy_or h.2))
  exact ⟨v', h1, .of_sy h2⟩
/-- Are two arrays the same, place by place? -/
def aarrEq (P : Program) (t : TypeId) (c d : Array Value) : Bool :=
  match P.underlying t with
  | some (.array len elem) => match P.underlying elem, P.info? elem with
    | some de, some i => !isAggB de && (i.size == 1 && (!P.eqGuardType P.depth t && (List.range len).all fun j => match c[j]?, d[j]? with
        | some x, some y => isSy x && (isSy y && Sg.eqs P elem x y)
        | _, _ => false))
    | _, _ => false
  | _ => false
theorem aarrEq_ok {t : TypeId} {c d c' d' : Array Value} (w : World) (e : aarrEq P t c d = true) (hc : VRs φ c.toList c'.toList) (hd : VRs φ d.toList d'.toList) :
    (Op.equal t (.agg c') (.agg d')).run P w = .ok true w ∧ ∀ op x y, (eqGuard op t x y (.agg c') (.agg d')).run P w = .ok () w := by
  unfold aarrEq at e
  split at e
  case h_2 => cases e
  rename_i len elem hu
  split at e
  case h_2 => cases e
  rename_i de i hde hi
  simp only [Bool.and_eq_true, Bool.not_eq_true', beq_iff_eq] at e
  obtain ⟨ha, hs, hg, hall⟩ := e
  constructor
  · show (Op.equalIn (9999 + 1) t _ _).run P w = _
    rw [run_equalIn_array w (9998 + 1) _ _ hu hi]
    have hcs : P.cellsOf elem = 1 := by simp [Program.cellsOf, hi, hs]
    rw [hcs]
    have key : ∀ l : List Nat, (l.all fun j => match c[j]?, d[j]? with
        | some x, some y => isSy x && (isSy y && Sg.eqs P elem x y)
        | _, _ => false) = true → (Op.eqItems (9998 + 1) elem 1 c' d' l).run P w = .ok true w := by
      intro l
      induction l with
      | nil => intro _; rfl
      | cons j l ih =>
        intro h
        simp only [List.all_cons, Bool.and_eq_true] at h
        obtain ⟨h1, h2⟩ := h
        split at h1
        case h_2 => cases h1
        rename_i x y hx hy
        simp only [Bool.and_eq_true] at h1
        have a1 : apart P elem c j = some x := by simp only [apart, hde, ha, Bool.false_eq_true, if_false, hx]
        have a2 : apart P elem d j = some y := by simp only [apart, hde, ha, Bool.false_eq_true, if_false, hy]
        obtain ⟨x', b1, b2⟩ := apart_ok w a1 hc
        obtain ⟨y', b3, b4⟩ := apart_ok w a2 hd
        have b5 := Sg.eqs_ok P w 9998 elem x y x' y' h1.2.2 (b2.sy (isSy_or h1.1)) (b4.sy (isSy_or h1.2.1))
        simp only [Op.eqItems, Sem.run_bind, Nat.mul_one, b1, b3, b5, Result.andThen_ok, Bool.not_true, Bool.false_eq_true, if_false, ih h2]
    exact key _ hall
  · intro op x y
    unfold eqGuard
    cases op <;> first
      | rfl
      | (simp only [Bool.not_true, Bool.false_eq_true, if_false, Sem.run_bind, run_program, Result.andThen_ok, hg, Bool.not_false, if_true, Sem.run_pure])
def abin (P : Program) (op : BinOp) (t : TypeId) (x y : Operand) (a b : Value) (h : AHeap) : Option Value :=
  if clean a = true ∧ clean b = true then
    match pureRun P (do eqGuard op t x y a b; binOp op t a b) with
    | none => none
    | some v => if clean v = true then some v else none
  else match asym P op t a b with
  | some v => some v
  | none => match op, a, b with
    | .eql, .agg c, .agg d => if aarrEq P t c d = true then some (.bool true) else none
    | .neq, .agg c, .agg d => if aarrEq P t c d = true then some (.bool false) else none
    | op, a, b => match op with
    | .eql => match aeq P t a b h with
      | none => none
      | some r => some (.bool r)
    | .neq => match aeq P t a b h with
      | none => none
      | some r => some (.bool (!r))
    | _ => none
theorem abin_ok {op : BinOp} {t : TypeId} {x y : Operand} {a b a' b' v : Value} (R : Rel P W K J φ h w) (e : abin P op t x y a b h = some v) (ha : VR φ a a') (hb : VR φ b b') :
    ∃ v', (do eqGuard op t x y a' b'; binOp op t a' b' : Sem Value).run P w = .ok v' w ∧ VR φ v v' := by
  unfold abin at e
  split at e
  · rename_i hc
    have := clean_eq hc.1 ha
    subst this
    have := clean_eq hc.2 hb
    subst this
    split at e
    · cases e
    · rename_i u hu
      split at e
      · rename_i hcu
        cases e
        exact ⟨_, pureRun_run P w _ _ hu, clean_self hcu⟩
      · cases e
  · split at e
    · rename_i u hu
      cases e
      exact asym_ok w hu ha hb
    split at e
    · rename_i c d
      split at e
      case isFalse => cases e
      rename_i he
      cases e
      obtain ⟨c', rfl, hc⟩ := ha.agg_inv
      obtain ⟨d', rfl, hd⟩ := hb.agg_inv
      obtain ⟨k1, k2⟩ := aarrEq_ok w he hc hd
      refine ⟨.bool true, ?_, .flat rfl⟩
      rw [Sem.run_bind, k2, Result.andThen_ok]
      show (do pure (Value.bool (← Op.equal t (.agg c') (.agg d'))) : Sem Value).run P w = _
      rw [Sem.run_bind, k1]; rfl
    · rename_i c d
      split at e
      case isFalse => cases e
      rename_i he
      cases e
      obtain ⟨c', rfl, hc⟩ := ha.agg_inv
      obtain ⟨d', rfl, hd⟩ := hb.agg_inv
      obtain ⟨k1, k2⟩ := aarrEq_ok w he hc hd
      refine ⟨.bool false, ?_, .flat rfl⟩
      rw [Sem.run_bind, k2, Result.andThen_ok]
      show (do pure (Value.bool (!(← Op.equal t (.agg c') (.agg d')))) : Sem Value).run P w = _
      rw [Sem.run_bind, k1]; rfl
    split at e
    · split at e
      · cases e
      · rename_i r hr
        cases e
        obtain ⟨h1, h2, h3, h4, h5, h6, h7⟩ := aeq_ok R hr ha hb
        refine ⟨.bool r, ?_, .flat rfl⟩
        rw [Sem.run_bind, h2, Result.andThen_ok]
        have : binOp .eql t a' b' = (do pure (.bool (← Op.equal t a' b'))) := by
          cases a' <;> first | rfl | (exact absurd rfl (h4 _ _)) | (exact absurd rfl (h5 _ _)) | (exact absurd rfl (h6 _ _ _)) | (exact absurd rfl (h7 _))
        rw [this, Sem.run_bind, h1]; rfl
    · split at e
      · cases e
      · rename_i r hr
        cases e
        obtain ⟨h1, h2, h3, h4, h5, h6, h7⟩ := aeq_ok R hr ha hb
        refine ⟨.bool (!r), ?_, .flat rfl⟩
        rw [Sem.run_bind, h2, Result.andThen_ok]
        have : binOp .neq t a' b' = (do pure (.bool (!(← Op.equal t a' b')))) := by
          cases a' <;> first | rfl | (exact absurd rfl (h4 _ _)) | (exact absurd rfl (h5 _ _)) | (exact absurd rfl (h6 _ _ _)) | (exact absurd rfl (h7 _))
        rw [this, Sem.run_bind, h1]; rfl
    · cases e
end
end Go.Ab
namespace Go.Ab
open Go.RowKit
set_option linter.unusedVariables false
set_option linter.unusedSectionVars false

section
variable [Sg] {P : Program} {W : World} {K : Nat} {J : Nat → Option Obj} {φ : Map} {h h' : AHeap} {w : World}

def aconvert (P : Program) (src dst : TypeId) (v : Value) : Option Value :=
  if clean v = true then match pureRun P (convert src dst v) with
    | none => none
    | some r => if clean r = true then some r else none
  else if isSy v = true then Sg.cnv P src dst v else none
theorem aconvert_ok {src dst : TypeId} {v v' r : Value} (w : World) (e : aconvert P src dst v = some r) (hv : VR φ v v') : ∃ r', (convert src dst v').run P w = .ok r' w ∧ VR φ r r' := by
  unfold aconvert at e
  split at e
  case isFalse =>
    split at e
    case isFalse => cases e
    rename_i hs
    obtain ⟨r', h1, h2⟩ := Sg.cnv_ok P w src dst v r v' e (hv.sy (isSy_or hs))
    exact ⟨r', h1, .of_sy h2⟩
  rename_i hc
  have := clean_eq hc hv
  subst this
  split at e
  · cases e
  rename_i u hu
  split at e
  case isFalse => cases e
  rename_i hcu
  cases e
  exact ⟨_, pureRun_run P w _ _ hu, clean_self hcu⟩

def aunary (P : Program) (op : UnOp) (v : Value) : Option Value :=
  if clean v = true then match pureRun P (Op.unary op v) with
    | none => none
    | some r => if clean r = true then some r else none
  else none
theorem aunary_ok {op : UnOp} {v v' r : Value} (w : World) (e : aunary P op v = some r) (hv : VR φ v v') : ∃ r', (Op.unary op v').run P w = .ok r' w ∧ VR φ r r' := by
  unfold aunary at e
  split at e
  case isFalse => cases e
  rename_i hc
  have := clean_eq hc hv
  subst this
  split at e
  · cases e
  rename_i u hu
  split at e
  case isFalse => cases e
  rename_i hcu
  cases e
  exact ⟨_, pureRun_run P w _ _ hu, clean_self hcu⟩

def amkIface (P : Program) (t : TypeId) (v : Value) : Option Value :=
  match P.underlying t with
  | none => none
  | some (.interface _) => none
  | some _ => some (.iface t v)
theorem amkIface_ok {t : TypeId} {v v' r : Value} (w : World) (e : amkIface P t v = some r) (hv : VR φ v v') : ∃ r', (Instr.makeInterface t v').run P w = .ok r' w ∧ VR φ r r' := by
  unfold amkIface at e
  split at e
  · cases e
  · cases e
  · rename_i d hne hd
    cases e
    refine ⟨.iface t v', ?_, .iface hv⟩
    simp only [Instr.makeInterface, Sem.run_bind, run_underlying w hd, Result.andThen_ok]
    cases d <;> first | rfl | (exact absurd rfl (hne _))

def isYield : Fn → Bool
  | .yield _ => true
  | _ => false

def anilCheck (v : Value) : Option Value :=
  match v with
  | .pointer (some a) => some v
  | .iface _ _ => some v
  | .func (.func f) p c => some v
  | _ => none
theorem anilCheck_ok {x : Operand} {ρ' : Operand → Value} {dst : Option Tmp} {ty : TypeId} {pos : String} {after : Array Edge} {guard : Option (Nat × Bool)} {v r : Value} (w : World) (e : anilCheck v = some r) (hv : VR φ v (ρ' x)) :
    ∃ r', (execOp ρ' ⟨dst, .nilCheck x, ty, pos, after, guard⟩).run P w = .ok (.value r') w ∧ VR φ r r' := by
  unfold anilCheck at e
  simp only [execOp]
  generalize ρ' x = u at hv ⊢
  split at e
  · cases e
    obtain ⟨y, hy, hs, hr⟩ := hv.ptr_inv
    subst hr
    exact ⟨_, rfl, hv⟩
  · cases e
    obtain ⟨u, hr, _⟩ := hv.iface_inv
    subst hr
    exact ⟨_, rfl, hv⟩
  · cases e
    obtain ⟨p', c', hr, _⟩ := hv.func_inv
    subst hr
    exact ⟨_, rfl, hv⟩
  · cases e

def as2a (P : Program) (t : TypeId) (v : Value) : Option Value :=
  match v with
  | .slice (some a) len _ => match P.underlying t with
    | some (.array n _) => if n ≤ len ∧ 0 < n then some (.pointer (some ⟨a.block, a.off, none⟩)) else none
    | _ => none
  | _ => none
theorem as2a_ok {t : TypeId} {v v' r : Value} (w : World) (e : as2a P t v = some r) (hv : VR φ v v') : ∃ r', (Instr.arrayAt t v').run P w = .ok r' w ∧ VR φ r r' := by
  unfold as2a at e
  split at e
  case h_2 => cases e
  rename_i a len cap
  obtain ⟨x, cap', o, hx, hs, h1, h2, h3, h4, rfl⟩ := hv.slice_inv
  split at e
  case h_2 => cases e
  rename_i n el hu
  split at e
  case isFalse => cases e
  rename_i hn
  cases e
  have ho : o = a.off + x.d := h4.resolve_right (by omega)
  subst ho
  refine ⟨.pointer (some ⟨x.b, a.off + x.d, none⟩), ?_, .ptr (a := ⟨a.block, a.off, none⟩) hx rfl⟩
  simp only [Instr.arrayAt, Sem.run_bind, run_underlying w hu, Result.andThen_ok]
  rw [if_neg (by omega)]
  rfl

/-- Are all the methods there? -/
def hasAll (want : Array (String × TypeId)) (got : Array Method) : Bool := want.toList.all fun p => got.toList.any fun m => m.name == p.1 && m.sig == p.2
theorem least_some {l : List String} (h : l ≠ []) : ∃ m, Instr.least l = some m := by
  cases l with
  | nil => exact absurd rfl h
  | cons => exact ⟨_, rfl⟩
theorem missing_of {want : Array (String × TypeId)} {got : Array Method} (b : Bool) (h : hasAll want got = b) :
    (b = true → Instr.missingMethod want got = none) ∧ (b = false → ∃ m, Instr.missingMethod want got = some m) := by
  have hf : (want.toList.filter fun (p : String × TypeId) => !got.any fun m => m.name == p.1 && m.sig == p.2) = [] ↔ hasAll want got = true := by
    rw [List.filter_eq_nil_iff, hasAll, List.all_eq_true]
    refine forall_congr' fun p => forall_congr' fun _ => ?_
    rw [← Array.any_toList]
    simp
  constructor
  · rintro rfl
    have h1 := hf.2 h
    show (Instr.least _ <|> Instr.least _ : Option String) = none
    simp only [h1, List.map_nil]
    rfl
  · rintro rfl
    have h1 : (want.toList.filter fun (p : String × TypeId) => !got.any fun m => m.name == p.1 && m.sig == p.2) ≠ [] := fun hn => by rw [hf.1 hn] at h; cases h
    show ∃ m, (Instr.least (List.partition (·.contains '.') (List.map (·.1) (want.toList.filter fun (p : String × TypeId) => !got.any fun m => m.name == p.1 && m.sig == p.2))).2 <|> Instr.least (List.map _ (List.partition (·.contains '.') (List.map (·.1) (want.toList.filter fun (p : String × TypeId) => !got.any fun m => m.name == p.1 && m.sig == p.2))).1) : Option String) = some m
    revert h1
    generalize (want.toList.filter fun (p : String × TypeId) => !got.any fun m => m.name == p.1 && m.sig == p.2) = l
    intro h1
    rw [List.partition_eq_filter_filter]
    cases l with
    | nil => exact absurd rfl h1
    | cons p r =>
      have hp : p.1 ∈ List.map (·.1) (p :: r) := List.mem_map_of_mem (f := fun x : String × TypeId => x.1) (List.mem_cons_self ..)
      by_cases hc : p.1.contains '.' = true
      · obtain ⟨m, hm⟩ := least_some (l := List.map (fun id : String => (id.splitOn ".").getLastD id) (List.filter (·.contains '.') (List.map (·.1) (p :: r)))) (List.ne_nil_of_mem (List.mem_map_of_mem (List.mem_filter.2 ⟨hp, hc⟩)))
        cases hl : Instr.least (List.filter (not ∘ fun x => x.contains '.') (List.map (·.1) (p :: r))) with
        | none => exact ⟨m, by simp only [hm]; rfl⟩
        | some x => exact ⟨x, rfl⟩
      · obtain ⟨m, hm⟩ := least_some (l := List.filter (not ∘ fun x => x.contains '.') (List.map (·.1) (p :: r))) (List.ne_nil_of_mem (List.mem_filter.2 ⟨hp, by simp only [Function.comp, hc]; rfl⟩))
        exact ⟨m, by simp only [hm]; rfl⟩

def atypeAssert (P : Program) (v : Value) (asserted : TypeId) (ok : Bool) : Option Value :=
  match P.underlying asserted, v with
  | some (.interface want), .iface t u => match P.info? t with
    | none => none
    | some i => match hasAll want i.methods with
      | true => some (if ok then .tuple #[.iface t u, .bool true] else .iface t u)
      | false => match P.info? asserted with
        | none => none
        | some j => match j.zero with
          | some .nilIface => if ok then some (.tuple #[.nilIface, .bool false]) else none
          | _ => none
  | some (.interface _), .nilIface => match P.info? asserted with
    | none => none
    | some j => match j.zero with
      | some .nilIface => if ok then some (.tuple #[.nilIface, .bool false]) else none
      | _ => none
  | _, _ => none
theorem atypeAssert_ok {v v' r : Value} {xt asserted : TypeId} {ok : Bool} (w : World) (e : atypeAssert P v asserted ok = some r) (hv : VR φ v v') :
    ∃ r', (Instr.typeAssert v' xt asserted ok).run P w = .ok r' w ∧ VR φ r r' := by
  unfold atypeAssert at e
  split at e
  · rename_i want t u hu
    obtain ⟨u', rfl, hu'⟩ := hv.iface_inv
    split at e
    · cases e
    rename_i i hi
    split at e
    · rename_i hm
      have hm := (missing_of _ hm).1 rfl
      cases e
      refine ⟨if ok = true then .tuple #[.iface t u', .bool true] else .iface t u', ?_, ?_⟩
      · simp only [Instr.typeAssert, Sem.run_bind, run_underlying w hu, Result.andThen_ok, run_typeInfo w hi, hm, Sem.run_pure]
      · split
        · exact pair_VR (.iface hu') true
        · exact .iface hu'
    · rename_i hm
      obtain ⟨m, hm⟩ := (missing_of _ hm).2 rfl
      split at e
      · cases e
      rename_i j hj
      split at e
      case h_2 => cases e
      rename_i hz
      split at e
      case isFalse => cases e
      rename_i hok
      cases e
      refine ⟨.tuple #[.nilIface, .bool false], ?_, pair_VR (.flat rfl) false⟩
      simp only [Instr.typeAssert, Sem.run_bind, run_underlying w hu, Result.andThen_ok, run_typeInfo w hi, hm]
      rw [if_pos hok]
      simp only [Sem.run_bind, run_zeroValue w hj hz, Result.andThen_ok, Sem.run_pure]
  · rename_i want hu
    have := hv.flat_inv rfl
    subst this
    split at e
    · cases e
    rename_i j hj
    split at e
    case h_2 => cases e
    rename_i hz
    split at e
    case isFalse => cases e
    rename_i hok
    cases e
    refine ⟨.tuple #[.nilIface, .bool false], ?_, pair_VR (.flat rfl) false⟩
    simp only [Instr.typeAssert, Sem.run_bind, run_underlying w hu, Result.andThen_ok]
    rw [if_pos hok]
    simp only [Sem.run_bind, run_zeroValue w hj hz, Result.andThen_ok, Sem.run_pure]
  · cases e

def alen (P : Program) (t : TypeId) (v : Value) : Option Value :=
  match P.underlying t, v with
  | some .string, .string s => some (.int .i64 s.size)
  | some (.slice _), .slice _ n _ => some (.int .i64 n)
  | _, _ => none
theorem alen_ok {ts : Array TypeId} {t ty : TypeId} {v v' r : Value} (w : World) (ht : ts[0]? = some t) (e : alen P t v = some r) (hv : VR φ v v') : ∃ r', (Builtin.len_ ts ty #[v']).run P w = .ok r' w ∧ VR φ r r' := by
  unfold alen at e
  split at e
  · rename_i s hu
    have := hv.flat_inv rfl
    subst this
    cases e
    refine ⟨_, ?_, .flat rfl⟩
    simp only [Builtin.len_, ht, List.getElem?_toArray, List.getElem?_cons_zero, Sem.run_bind, run_underlying w hu, Result.andThen_ok, Sem.run_pure, goInt]
  · rename_i a n c hu
    cases e
    have : ∃ a' c', v' = .slice a' n c' := by
      cases a with
      | none => exact ⟨_, _, hv.flat_inv rfl⟩
      | some a => obtain ⟨x, c', o, _, _, _, _, _, _, rfl⟩ := hv.slice_inv; exact ⟨_, _, rfl⟩
    obtain ⟨a', c', rfl⟩ := this
    refine ⟨.int .i64 n, ?_, .flat rfl⟩
    simp only [Builtin.len_, ht, List.getElem?_toArray, List.getElem?_cons_zero, Sem.run_bind, run_underlying w hu, Result.andThen_ok, Sem.run_pure, goInt]
  · cases e

def amm (max : Bool) (vs : List Value) : Option Value :=
  match vs with
  | [.int k a, .int _ b] => some (.int k (if max then (if b > a then b else a) else (if b < a then b else a)))
  | _ => none
theorem amm_ok {m : Bool} {vs vs' : List Value} {r : Value} {ts : Array TypeId} {ty : TypeId} (w : World) (e : amm m vs = some r) (hv : VRs φ vs vs') :
    ∃ r', (if m then Builtin.max_ ts ty vs'.toArray else Builtin.min_ ts ty vs'.toArray).run P w = .ok r' w ∧ VR φ r r' := by
  unfold amm at e
  split at e
  case h_2 => cases e
  rename_i k a k' b
  cases e
  cases hv with
  | cons h1 h2 => cases h2 with
    | cons h3 h4 =>
      cases h4
      have := h1.flat_inv rfl
      subst this
      have := h3.flat_inv rfl
      subst this
      cases m
      · exact ⟨_, rfl, .flat rfl⟩
      · exact ⟨_, rfl, .flat rfl⟩

/-! ### Calls -/
/-- What is told of the calls of functions without a body: what they answer. -/
abbrev Ext := FuncId → List Value → AHeap → Option (Value × AHeap)
def hasBody (P : Program) (f : FuncId) : Bool :=
  match P.funcs[f]? with
  | some fn => fn.body.isSome
  | none => false
def acallFunc (P : Program) (X : Ext) (f : FuncId) (args : List Value) (h : AHeap) : Option (AN × AHeap) :=
  if hasBody P f = true then some (.call f args, h) else match X f args h with
    | none => none
    | some (v, h1) => some (.val v, h1)
/-- The model's calls of functions without a body do what X tells. -/
def ExtOk (P : Program) (W : World) (K : Nat) (X : Ext) : Prop :=
  ∀ f args h v h', X f args h = some (v, h') → hasBody P f = false → ∀ J φ w args', Rel P W K J φ h w → VRs φ args args' →
    ∃ ψ w' v', φ.le ψ ∧ (callFunc f args'.toArray).run P w = .ok (.value v') w' ∧ Rel P W K J ψ h' w' ∧ VR ψ v v'
/-- No function with a body has the one name that the model stands in for. -/
def NamesOk (P : Program) : Prop := ∀ (f : FuncId) (fn : Func), P.funcs[f]? = some fn → fn.body.isSome = true → fn.name ≠ "runtime.NumGoroutine"

theorem acallFunc_ok {X : Ext} (hX : ExtOk P W K X) (hN : NamesOk P) {f : FuncId} {args args' : List Value} {an : AN} (R : Rel P W K J φ h w) (e : acallFunc P X f args h = some (an, h')) (ha : VRs φ args args') :
    Met P W K J φ an h' ((callFunc f args'.toArray).run P w) := by
  unfold acallFunc at e
  split at e
  · rename_i hb
    cases e
    refine ⟨φ, w, φ.le_refl, R, args'.toArray, ?_, by simpa using ha⟩
    unfold hasBody at hb
    split at hb
    · rename_i fn hfn
      have hne := hN f fn hfn hb
      have hnone : fn.body.isNone = false := by cases hh : fn.body <;> simp_all
      simp only [callFunc, Sem.run_bind, run_program, Result.andThen_ok, hfn]
      rw [if_neg (by simpa using hne), hnone]
      rfl
    · cases hb
  · rename_i hb
    split at e
    · cases e
    · rename_i v h1 hx
      cases e
      obtain ⟨ψ, w', v', k1, k2, k3, k4⟩ := hX f args h v h' hx (by simpa using hb) J φ w args' R ha
      exact ⟨ψ, w', k1, k3, v', .inl k2, k4⟩

def afollow (P : Program) : List FieldStep → TypeId → Value → Option (TypeId × Value)
  | [], t, v => some (t, v)
  | s :: rest, _, v => if s.deref = true then none else match P.underlying s.struct, v with
    | some (.struct fields), .agg cs => match fields[s.index]? with
      | some f => match apart P f.type cs f.offset with
        | some u => afollow P rest f.type u
        | none => none
      | none => none
    | _, _ => none
theorem afollow_ok (w : World) : ∀ (l : List FieldStep) (t : TypeId) (v v' : Value) (xt : TypeId) (x : Value), afollow P l t v = some (xt, x) → VR φ v v' → ∃ x', (follow l t (.val v')).run P w = .ok (xt, .val x') w ∧ VR φ x x' := by
  intro l
  induction l with
  | nil => intro t v v' xt x e hv; cases e; exact ⟨v', by simp only [follow, Sem.run_pure], hv⟩
  | cons s rest ih =>
    intro t v v' xt x e hv
    simp only [afollow] at e
    split at e
    · cases e
    rename_i hd
    split at e
    case h_2 => cases e
    rename_i fields cs hu
    obtain ⟨cs', rfl, hcs⟩ := hv.agg_inv
    split at e
    case h_2 => cases e
    rename_i f hf
    split at e
    case h_2 => cases e
    rename_i u hp
    obtain ⟨u', h1, h2⟩ := apart_ok w hp hcs
    obtain ⟨x', h3, h4⟩ := ih f.type u u' xt x e h2
    refine ⟨x', ?_, h4⟩
    have hd' : s.deref = false := by simpa using hd
    simp only [follow, Sem.run_bind, run_underlying w hu, Result.andThen_ok, hf, hd', h1, h3, Bool.false_eq_true, if_false]

def amethod (P : Program) (t : TypeId) (v : Value) (name : String) : Option (FuncId × Value) :=
  match P.info? t with
  | none => none
  | some i => match i.methods.find? (·.name == name) with
    | none => none
    | some m => match afollow P m.path.toList t v with
      | none => none
      | some (xt, x) => match m.func, P.underlying xt with
        | some (f, true), some (.pointer _) => some (f, x)
        | some (f, false), some d => match d with
          | .pointer _ => none
          | _ => some (f, x)
        | _, _ => none
theorem amethod_ok {t : TypeId} {v v' r : Value} {name : String} {f : FuncId} (n : Nat) (w : World) (e : amethod P t v name = some (f, r)) (hv : VR φ v v') :
    ∃ r', (Go.method (n + 1) t v' name).run P w = .ok (f, r') w ∧ VR φ r r' := by
  unfold amethod at e
  split at e
  · cases e
  rename_i i hi
  split at e
  · cases e
  rename_i m hm
  split at e
  · cases e
  rename_i xt x hx
  obtain ⟨x', h1, h2⟩ := afollow_ok (P := P) w _ _ _ _ _ _ hx hv
  split at e
  · rename_i g el hf hu
    cases e
    refine ⟨x', ?_, h2⟩
    simp only [Go.method, Sem.run_bind, run_typeInfo w hi, Result.andThen_ok, hm, h1, Sem.run_pure, hf, receiverAt, run_underlying w hu, Place.get]
  · rename_i g d hf hu
    split at e
    · cases e
    rename_i hne
    cases e
    refine ⟨x', ?_, h2⟩
    simp only [Go.method, Sem.run_bind, run_typeInfo w hi, Result.andThen_ok, hm, h1, Sem.run_pure, hf, receiverAt, run_underlying w hu, Place.get]
  · cases e

def acallMethod (P : Program) (X : Ext) (recv : Value) (name : String) (args : List Value) (h : AHeap) : Option (AN × AHeap) :=
  match recv with
  | .iface t v => match amethod P t v name with
    | none => none
    | some (f, r) => acallFunc P X f (r :: args) h
  | _ => none
theorem acallMethod_ok {X : Ext} (hX : ExtOk P W K X) (hN : NamesOk P) {recv recv' : Value} {name : String} {args args' : List Value} {an : AN} (R : Rel P W K J φ h w)
    (e : acallMethod P X recv name args h = some (an, h')) (hr : VR φ recv recv') (ha : VRs φ args args') : Met P W K J φ an h' ((callMethod recv' name args'.toArray).run P w) := by
  unfold acallMethod at e
  split at e
  case h_2 => cases e
  rename_i t v
  obtain ⟨u, rfl, hu⟩ := hr.iface_inv
  split at e
  · cases e
  rename_i f r hm
  have hd0 : 0 < Made.depth := by decide
  obtain ⟨n, hn⟩ : ∃ n, P.types.size + Made.depth = n + 1 := ⟨P.types.size + Made.depth - 1, by omega⟩
  obtain ⟨r', h1, h2⟩ := amethod_ok (P := P) n w hm hu
  have := acallFunc_ok hX hN R e (VRs.cons h2 ha)
  simp only [callMethod, Sem.run_bind, run_program, Result.andThen_ok, hn, h1]
  have e2 : #[r'] ++ args'.toArray = (r' :: args').toArray := by simp
  rw [e2]
  exact this
end
end Go.Ab
namespace Go.Ab
open Go.RowKit
set_option linter.unusedVariables false
set_option linter.unusedSectionVars false

section
variable [Sg] {P : Program} {W : World} {K : Nat} {J : Nat → Option Obj} {φ : Map} {h h' : AHeap} {w : World}

abbrev Env := Operand → Option Value
def avals (ρ : Env) : List Operand → Option (List Value)
  | [] => some []
  | x :: r => match ρ x with
    | none => none
    | some v => match avals ρ r with
      | none => none
      | some l => some (v :: l)
def aparts (ρ : Env) : List (Nat × Operand) → Option (List (Nat × Value))
  | [] => some []
  | (i, x) :: r => match ρ x with
    | none => none
    | some v => match aparts ρ r with
      | none => none
      | some l => some ((i, v) :: l)
def aopt (ρ : Env) : Option Operand → Option (Option Value)
  | none => some none
  | some x => match ρ x with
    | none => none
    | some v => match v with
      | .int k n => some (some (.int k n))
      | _ => none

theorem avals_ok {ρ : Env} {ρ' : Operand → Value} (hρ : ∀ x v, ρ x = some v → VR φ v (ρ' x)) : ∀ (l : List Operand) (vs : List Value), avals ρ l = some vs → VRs φ vs (l.map ρ') := by
  intro l
  induction l with
  | nil => intro vs e; simp only [avals, Option.some.injEq] at e; subst e; exact .nil
  | cons x r ih =>
    intro vs e
    simp only [avals] at e
    split at e
    · cases e
    rename_i v hv
    split at e
    · cases e
    rename_i l hl
    cases e
    exact .cons (hρ _ _ hv) (ih _ hl)
theorem aparts_ok {ρ : Env} {ρ' : Operand → Value} (hρ : ∀ x v, ρ x = some v → VR φ v (ρ' x)) : ∀ (l : List (Nat × Operand)) (vs : List (Nat × Value)), aparts ρ l = some vs →
    vs.map (·.1) = (l.map fun (i, x) => (i, ρ' x)).map (·.1) ∧ VRs φ (vs.map (·.2)) ((l.map fun (i, x) => (i, ρ' x)).map (·.2)) := by
  intro l
  induction l with
  | nil => intro vs e; simp only [aparts, Option.some.injEq] at e; subst e; exact ⟨rfl, .nil⟩
  | cons p r ih =>
    obtain ⟨i, x⟩ := p
    intro vs e
    simp only [aparts] at e
    split at e
    · cases e
    rename_i v hv
    split at e
    · cases e
    rename_i l hl
    cases e
    obtain ⟨h1, h2⟩ := ih _ hl
    exact ⟨by simp only [List.map_cons, h1], .cons (hρ _ _ hv) h2⟩
theorem aopt_ok {ρ : Env} {ρ' : Operand → Value} (hρ : ∀ x v, ρ x = some v → VR φ v (ρ' x)) {o : Option Operand} {v : Option Value} (e : aopt ρ o = some v) : o.map ρ' = v := by
  cases o with
  | none => simp only [aopt, Option.some.injEq] at e; subst e; rfl
  | some x =>
    simp only [aopt] at e
    split at e
    · cases e
    rename_i u hu
    split at e
    · cases e
      have := (hρ _ _ hu).flat_inv rfl
      simp [this]
    · cases e

def abuiltin (P : Program) (b : Builtin) (ts : Array TypeId) (vs : List Value) (h : AHeap) : Option (Value × AHeap) :=
  match b, vs with
  | .append, [s, x] => match ts.toList with
    | [st, xt] => aappendT P st xt s x h
    | _ => none
  | .len, [v] => match ts[0]? with
    | some t => match alen P t v with
      | none => none
      | some r => some (r, h)
    | none => none
  | .copy, [d, s] => match ts[0]? with
    | some t => acopy P t d s h
    | none => none
  | .delete, [m, k] => match ts[0]? with
    | some t => match adelete P t m k h with
      | none => none
      | some h1 => some (.tuple #[], h1)
    | none => none
  | .max, _ => match amm true vs with
    | none => none
    | some r => some (r, h)
  | .min, _ => match amm false vs with
    | none => none
    | some r => some (r, h)
  | _, _ => none

theorem abuiltin_ok {b : Builtin} {ts : Array TypeId} {ty : TypeId} {cs : Array Bool} {vs vs' : List Value} {v : Value} (R : Rel P W K J φ h w) (e : abuiltin P b ts vs h = some (v, h')) (hv : VRs φ vs vs') :
    Met P W K J φ (.val v) h' ((builtin b ts ty cs vs'.toArray).run P w) := by
  unfold abuiltin at e
  split at e
  · rename_i s x
    cases hv with
    | cons h1 hv => cases hv with
      | cons h2 hv =>
        cases hv
        split at e
        case h_2 => cases e
        rename_i st xt hts
        have hts' : ts = #[st, xt] := by rw [← Array.toArray_toList (xs := ts), hts]
        subst hts'
        obtain ⟨ψ, w', v', k1, k2, k3, k4⟩ := aappend_ok (ty := ty) R e h1 h2
        exact ⟨ψ, w', k1, k3, v', .inl (run_v k2), k4⟩
  · cases hv with
    | cons h1 hv =>
      cases hv
      split at e
      case h_2 => cases e
      rename_i t ht
      split at e
      · cases e
      rename_i r hr
      cases e
      obtain ⟨r', k1, k2⟩ := alen_ok (ty := ty) w ht hr h1
      exact .value R (run_v k1) k2
  · cases hv with
    | cons h1 hv => cases hv with
      | cons h2 hv =>
        cases hv
        split at e
        case h_2 => cases e
        rename_i t ht
        obtain ⟨ψ, w', v', k1, k2, k3, k4⟩ := acopy_ok (ty := ty) R ht e h1 h2
        exact ⟨ψ, w', k1, k3, v', .inl (run_v k2), k4⟩
  · cases hv with
    | cons h1 hv => cases hv with
      | cons h2 hv =>
        cases hv
        split at e
        case h_2 => cases e
        rename_i t ht
        split at e
        · cases e
        rename_i h1' hd
        cases e
        obtain ⟨w', k1, k2⟩ := adelete_ok (ty := ty) R ht hd h1 h2
        exact ⟨φ, w', φ.le_refl, k2, .tuple #[], .inl (run_v k1), .of_tuples .nil⟩
  · split at e
    · cases e
    rename_i r hr
    cases e
    obtain ⟨r', k1, k2⟩ := amm_ok (ts := ts) (ty := ty) w hr hv
    exact .value R (run_v k1) k2
  · split at e
    · cases e
    rename_i r hr
    cases e
    obtain ⟨r', k1, k2⟩ := amm_ok (ts := ts) (ty := ty) w hr hv
    exact .value R (run_v k1) k2
  · cases e

def acall (P : Program) (X : Ext) (c : Call) (ρ : Env) (h : AHeap) : Option (AN × AHeap) :=
  match avals ρ c.args.toList with
  | none => none
  | some vs => match c.callee with
    | .builtin b => match abuiltin P b c.argTypes vs h with
      | none => none
      | some (v, h1) => some (.val v, h1)
    | .value f => match ρ f with
      | some (.func (.func g) first captured) => acallFunc P X g (first.toList ++ vs ++ captured.toList) h
      | _ => none
    | .invoke recv name => match ρ recv with
      | some r => acallMethod P X r name vs h
      | none => none
theorem acall_ok {X : Ext} (hX : ExtOk P W K X) (hN : NamesOk P) {c : Call} {ty : TypeId} {ρ : Env} {ρ' : Operand → Value} {an : AN} (R : Rel P W K J φ h w) (hρ : ∀ x v, ρ x = some v → VR φ v (ρ' x))
    (e : acall P X c ρ h = some (an, h')) : Met P W K J φ an h' ((do let d ← resolve ρ' c ty; invoke d.target d.args : Sem Next).run P w) := by
  unfold acall at e
  split at e
  · cases e
  rename_i vs hvs
  have hv := avals_ok hρ _ _ hvs
  have harr : c.args.map ρ' = (c.args.toList.map ρ').toArray := by rw [← Array.toList_map, Array.toArray_toList]
  split at e
  · rename_i b hb
    split at e
    · cases e
    rename_i v h1 hbi
    cases e
    have := abuiltin_ok (ty := ty) (cs := c.args.map fun | .const _ => true | _ => false) R hbi hv
    simp only [resolve, hb, Sem.run_bind, Sem.run_pure, Result.andThen_ok, invoke, harr]
    exact this
  · rename_i f hf
    split at e
    case h_2 => cases e
    rename_i g first captured hg
    obtain ⟨p', c', hr, q1, q2⟩ := (hρ _ _ hg).func_inv
    have := acallFunc_ok hX hN R e ((q1.append hv).append q2)
    simp only [resolve, hf, hr, Deferred.ofValue, Sem.run_bind, Sem.run_pure, Result.andThen_ok, invoke]
    have e2 : p' ++ c.args.map ρ' ++ c' = (p'.toList ++ c.args.toList.map ρ' ++ c'.toList).toArray := by simp
    rw [e2]
    exact this
  · rename_i recv name hc
    split at e
    case h_2 => cases e
    rename_i r hr
    have := acallMethod_ok hX hN R e (hρ _ _ hr) hv
    simp only [resolve, hc, Sem.run_bind, Sem.run_pure, Result.andThen_ok, invoke, harr]
    have e1 : (#[ρ' recv] ++ (c.args.toList.map ρ').toArray)[0]? = some (ρ' recv) := by simp
    have e2 : (#[ρ' recv] ++ (c.args.toList.map ρ').toArray).extract 1 (#[ρ' recv] ++ (c.args.toList.map ρ').toArray).size = (c.args.toList.map ρ').toArray := by
      rw [show #[ρ' recv] ++ (c.args.toList.map ρ').toArray = (ρ' recv :: c.args.toList.map ρ').toArray by simp]
      simp only [List.size_toArray, List.extract_toArray, List.extract_eq_take_drop, List.drop_succ_cons, List.drop_zero, List.length_cons, Nat.add_sub_cancel]
      rw [List.take_of_length_le (Nat.le_refl _)]
    rw [e1]
    simp only []
    rw [e2]
    exact this

/-- One operation. -/
def aexec (P : Program) (X : Ext) (op : Op) (ρ : Env) (h : AHeap) : Option (AN × AHeap) :=
  match op with
  | .move x | .assign x => match ρ x with
    | none => none
    | some v => some (.val v, h)
  | .pick c a b => match ρ c with
    | some (.bool true) => match ρ a with
      | none => none
      | some v => some (.val v, h)
    | some (.bool false) => match ρ b with
      | none => none
      | some v => some (.val v, h)
    | _ => none
  | .alloc elem => match P.info? elem with
    | none => none
    | some i => match i.zero with
      | none => none
      | some z => if noAddr z = true ∨ z.cells.toList.all noAddr = true then some (.val (anew elem z h).1, (anew elem z h).2) else none
  | .box elem x => match ρ x with
    | none => none
    | some v => some (.val (anew elem v h).1, (anew elem v h).2)
  | .build t parts => match aparts ρ parts.toList with
    | none => none
    | some ps => match abuild P t ps with
      | none => none
      | some v => some (.val v, h)
  | .buildSlice t len parts => match aparts ρ parts.toList with
    | none => none
    | some ps => match abuildSlice P t len ps h with
      | none => none
      | some (v, h1) => some (.val v, h1)
  | .load t a => match ρ a with
    | some (.pointer (some a)) => match aload P t a h with
      | none => none
      | some v => some (.val v, h)
    | _ => none
  | .store t a x => match ρ a with
    | some (.pointer (some a)) => match ρ x with
      | none => none
      | some v => match astore P t a v h with
        | none => none
        | some h1 => some (.val undef, h1)
    | _ => none
  | .nilCheck x => match ρ x with
    | none => none
    | some v => match anilCheck v with
      | none => none
      | some r => some (.val r, h)
  | .binOp op t x y _ => match ρ x with
    | none => none
    | some a => match ρ y with
      | none => none
      | some b => match abin P op t x y a b h with
        | none => none
        | some v => some (.val v, h)
  | .unOp op _ x => match ρ x with
    | none => none
    | some v => match aunary P op v with
      | none => none
      | some r => some (.val r, h)
  | .convert s d x => match ρ x with
    | none => none
    | some v => match aconvert P s d v with
      | none => none
      | some r => some (.val r, h)
  | .sliceToArrayPointer t x => match ρ x with
    | none => none
    | some v => match as2a P t v with
      | none => none
      | some r => some (.val r, h)
  | .makeInterface t x => match ρ x with
    | none => none
    | some v => match amkIface P t v with
      | none => none
      | some r => some (.val r, h)
  | .makeFunc fn first captured => if isYield fn = true then none else match avals ρ first.toList with
    | none => none
    | some p => match avals ρ captured.toList with
      | none => none
      | some c => some (.val (.func fn p.toArray c.toArray), h)
  | .makeMap _ r => match r with
    | none => some (.val (.map (some h.next)), h.new (.map [] 0))
    | some _ => none
  | .makeSlice t l c => match ρ l with
    | none => none
    | some l => match ρ c with
      | none => none
      | some c => match amakeSlice P t l c h with
        | none => none
        | some (v, h1) => some (.val v, h1)
  | .slice t x lo hi mx => match ρ x with
    | none => none
    | some v => match aopt ρ lo with
      | none => none
      | some lo => match aopt ρ hi with
        | none => none
        | some hi => match aopt ρ mx with
          | none => none
          | some mx => match asliceAt P t v lo hi mx h with
            | none => none
            | some r => some (.val r, h)
  | .fieldAddr s x f => match ρ x with
    | none => none
    | some v => match afieldAt P s v f with
      | none => none
      | some r => some (.val r, h)
  | .field t x f => match ρ x with
    | none => none
    | some v => match afield P t v f with
      | none => none
      | some r => some (.val r, h)
  | .indexAddr t x i => match ρ x with
    | none => none
    | some v => match ρ i with
      | some (.int k n) => match aindexAt P t v (.int k n) with
        | none => none
        | some r => some (.val r, h)
      | _ => none
  | .index t x i => match ρ x with
    | none => none
    | some v => match ρ i with
      | some (.int k n) => match aindex P t v (.int k n) with
        | none => none
        | some r => some (.val r, h)
      | _ => none
  | .lookup t m k ok => match ρ m with
    | none => none
    | some m => match ρ k with
      | none => none
      | some k => match alookup P t m k ok h with
        | none => none
        | some r => some (.val r, h)
  | .mapUpdate t m k v => match ρ m with
    | none => none
    | some m => match ρ k with
      | none => none
      | some k => match ρ v with
        | none => none
        | some v => match amapUpdate P t m k v h with
          | none => none
          | some h1 => some (.val undef, h1)
  | .typeAssert x _ asserted ok => match ρ x with
    | none => none
    | some v => match atypeAssert P v asserted ok with
      | none => none
      | some r => some (.val r, h)
  | .extract t i => match ρ t with
    | none => none
    | some v => match aextract v i with
      | none => none
      | some r => some (.val r, h)
  | .call c => acall P X c ρ h
  | _ => none

theorem parts_arr (ρ' : Operand → Value) (ps : Array (Nat × Operand)) : (ps.map fun (i, x) => (i, ρ' x)) = (ps.toList.map fun (i, x) => (i, ρ' x)).toArray := by
  rw [← Array.toList_map, Array.toArray_toList]
theorem map_arr (ρ' : Operand → Value) (ps : Array Operand) : VRs φ [] [] → ps.map ρ' = (ps.toList.map ρ').toArray := fun _ => by
  rw [← Array.toList_map, Array.toArray_toList]

set_option maxHeartbeats 1000000 in
theorem aexec_ok {X : Ext} (hX : ExtOk P W K X) (hN : NamesOk P) {o : Oper} {ρ : Env} {ρ' : Operand → Value} {an : AN} (R : Rel P W K J φ h w) (hρ : ∀ x v, ρ x = some v → VR φ v (ρ' x))
    (e : aexec P X o.op ρ h = some (an, h')) : Met P W K J φ an h' ((execOp ρ' o).run P w) := by
  obtain ⟨dst, op, ty, pos, after, guard⟩ := o
  cases op <;> simp only [aexec] at e
  case move x =>
    split at e
    · cases e
    rename_i v hv
    cases e
    exact .value R rfl (hρ _ _ hv)
  case assign x =>
    split at e
    · cases e
    rename_i v hv
    cases e
    exact .value R rfl (hρ _ _ hv)
  case pick c a b =>
    split at e
    · rename_i hc
      have hc' := (hρ _ _ hc).flat_inv rfl
      split at e
      · cases e
      rename_i v hv
      cases e
      exact .value R (by simp only [execOp, hc', asBool, Sem.run_bind, Sem.run_pure, Result.andThen_ok, if_true]) (hρ _ _ hv)
    · rename_i hc
      have hc' := (hρ _ _ hc).flat_inv rfl
      split at e
      · cases e
      rename_i v hv
      cases e
      exact .value R (by simp only [execOp, hc', asBool, Sem.run_bind, Sem.run_pure, Result.andThen_ok, Bool.false_eq_true, if_false]) (hρ _ _ hv)
    · cases e
  case alloc elem =>
    split at e
    · cases e
    rename_i i hi
    split at e
    · cases e
    rename_i z hz
    split at e
    case isFalse => cases e
    rename_i hzf
    cases e
    obtain ⟨ψ, w', a, k1, k2, k3, k4⟩ := anew_ok (t := elem) R (zero_VR hzf)
    refine ⟨ψ, w', k1, k3, _, .inl ?_, k4⟩
    refine run_v ?_
    simp only [Instr.alloc, Sem.run_bind, run_zeroValue w hi hz, Result.andThen_ok, k2, Sem.run_pure]
  case box elem x =>
    split at e
    · cases e
    rename_i v hv
    cases e
    obtain ⟨ψ, w', a, k1, k2, k3, k4⟩ := anew_ok (t := elem) R (hρ _ _ hv)
    refine ⟨ψ, w', k1, k3, _, .inl ?_, k4⟩
    refine run_v ?_
    simp only [Instr.box, Sem.run_bind, k2, Result.andThen_ok, Sem.run_pure]
  case build t parts =>
    split at e
    · cases e
    rename_i ps hps
    split at e
    · cases e
    rename_i v hv
    cases e
    obtain ⟨h1, h2⟩ := aparts_ok hρ _ _ hps
    obtain ⟨v', k1, k2⟩ := abuild_ok w hv h1 h2
    exact .value R (run_v (by rw [parts_arr]; exact k1)) k2
  case buildSlice t len parts =>
    split at e
    · cases e
    rename_i ps hps
    split at e
    · cases e
    rename_i v h1 hv
    cases e
    obtain ⟨g1, g2⟩ := aparts_ok hρ _ _ hps
    obtain ⟨ψ, w', v', k1, k2, k3, k4⟩ := abuildSlice_ok R hv g1 g2
    exact ⟨ψ, w', k1, k3, v', .inl (run_v (by rw [parts_arr]; exact k2)), k4⟩
  case load t a =>
    split at e
    case h_2 => cases e
    rename_i b ha
    obtain ⟨x, hx, hs, hr⟩ := (hρ _ _ ha).ptr_inv
    split at e
    · cases e
    rename_i v hv
    cases e
    obtain ⟨v', k1, k2⟩ := aload_ok R hv hx
    exact .value R (run_v (by simp only [Instr.loadAt, hr, Instr.sureAddr, Sem.run_bind, Sem.run_pure, Result.andThen_ok, k1])) k2
  case store t a x =>
    split at e
    case h_2 => cases e
    rename_i b ha
    obtain ⟨y, hy, hs, hr⟩ := (hρ _ _ ha).ptr_inv
    split at e
    · cases e
    rename_i v hv
    split at e
    · cases e
    rename_i h1 hst
    cases e
    obtain ⟨w', k1, k2⟩ := astore_ok R hst hy (hρ _ _ hv)
    exact ⟨φ, w', φ.le_refl, k2, undef, .inr ⟨run_u (by simp only [Instr.storeAt, hr, Instr.sureAddr, Sem.run_bind, Sem.run_pure, Result.andThen_ok, k1]), rfl⟩, .of_tuples .nil⟩
  case nilCheck x =>
    split at e
    · cases e
    rename_i v hv
    split at e
    · cases e
    rename_i r hr
    cases e
    obtain ⟨r', k1, k2⟩ := anilCheck_ok (dst := dst) (ty := ty) (pos := pos) (after := after) (guard := guard) w hr (hρ _ _ hv)
    exact .value R k1 k2
  case binOp op t x y yt =>
    split at e
    · cases e
    rename_i a ha
    split at e
    · cases e
    rename_i b hb
    split at e
    · cases e
    rename_i v hv
    cases e
    obtain ⟨v', k1, k2⟩ := abin_ok R hv (hρ _ _ ha) (hρ _ _ hb)
    exact .value R (run_v k1) k2
  case unOp op t x =>
    split at e
    · cases e
    rename_i v hv
    split at e
    · cases e
    rename_i r hr
    cases e
    obtain ⟨r', k1, k2⟩ := aunary_ok w hr (hρ _ _ hv)
    exact .value R (run_v k1) k2
  case convert s d x =>
    split at e
    · cases e
    rename_i v hv
    split at e
    · cases e
    rename_i r hr
    cases e
    obtain ⟨r', k1, k2⟩ := aconvert_ok w hr (hρ _ _ hv)
    exact .value R (run_v k1) k2
  case sliceToArrayPointer t x =>
    split at e
    · cases e
    rename_i v hv
    split at e
    · cases e
    rename_i r hr
    cases e
    obtain ⟨r', k1, k2⟩ := as2a_ok w hr (hρ _ _ hv)
    exact .value R (run_v k1) k2
  case makeInterface t x =>
    split at e
    · cases e
    rename_i v hv
    split at e
    · cases e
    rename_i r hr
    cases e
    obtain ⟨r', k1, k2⟩ := amkIface_ok w hr (hρ _ _ hv)
    exact .value R (run_v k1) k2
  case makeFunc fn first captured =>
    split at e
    · cases e
    rename_i hy
    split at e
    · cases e
    rename_i p hp
    split at e
    · cases e
    rename_i c hc
    cases e
    have h1 := avals_ok hρ _ _ hp
    have h2 := avals_ok hρ _ _ hc
    refine .value R (run_v (v := .func fn (first.map ρ') (captured.map ρ')) rfl) ?_
    refine .func ?_ ?_ ?_ ?_
    · simpa using h1.length
    · intro i g1 g2
      obtain ⟨v', k1, k2⟩ := h1.get i p[i] (by simp at g1; simp [g1])
      simp at g2
      simp [g2] at k1
      simpa [k1] using k2
    · simpa using h2.length
    · intro i g1 g2
      obtain ⟨v', k1, k2⟩ := h2.get i c[i] (by simp at g1; simp [g1])
      simp at g2
      simp [g2] at k1
      simpa [k1] using k2
  case makeMap t r =>
    split at e
    case h_2 => cases e
    cases e
    obtain ⟨ψ, k1, k2, k3⟩ := R.new (o := .map [] 0) (O := .map #[] 0) (x := ⟨w.heap.size, 0, 0, 0, false⟩) rfl (fun h => by cases h) (fun ψ w' _ hw => ⟨#[], hw, .nil⟩)
    refine ⟨ψ, _, k1, k3, .map (some w.heap.size), .inl (run_v ?_), .map (x := ⟨w.heap.size, 0, 0, 0, false⟩) k2⟩
    simp only [Instr.makeMap, Option.map_none, Sem.run_bind, run_newObj, Result.andThen_ok, Sem.run_pure]
    rfl
  case makeSlice t l c =>
    split at e
    · cases e
    rename_i l' hl
    split at e
    · cases e
    rename_i c' hc
    split at e
    · cases e
    rename_i v h1 hv
    cases e
    obtain ⟨ψ, w', v', k1, k2, k3, k4⟩ := amakeSlice_ok R hv (hρ _ _ hl) (hρ _ _ hc)
    exact ⟨ψ, w', k1, k3, v', .inl (run_v k2), k4⟩
  case slice t x lo hi mx =>
    split at e
    · cases e
    rename_i v hv
    split at e
    · cases e
    rename_i lo' hlo
    split at e
    · cases e
    rename_i hi' hhi
    split at e
    · cases e
    rename_i mx' hmx
    split at e
    · cases e
    rename_i r hr
    cases e
    obtain ⟨r', k1, k2⟩ := asliceAt_ok R hr (hρ _ _ hv)
    exact .value R (run_v (by rw [aopt_ok hρ hlo, aopt_ok hρ hhi, aopt_ok hρ hmx]; exact k1)) k2
  case fieldAddr s x f =>
    split at e
    · cases e
    rename_i v hv
    split at e
    · cases e
    rename_i r hr
    cases e
    obtain ⟨r', k1, k2⟩ := afieldAt_ok w hr (hρ _ _ hv)
    exact .value R (run_v k1) k2
  case field t x f =>
    split at e
    · cases e
    rename_i v hv
    split at e
    · cases e
    rename_i r hr
    cases e
    obtain ⟨r', k1, k2⟩ := afield_ok w hr (hρ _ _ hv)
    exact .value R (run_v k1) k2
  case indexAddr t x i =>
    split at e
    · cases e
    rename_i v hv
    split at e
    case h_2 => cases e
    rename_i k n hi
    split at e
    · cases e
    rename_i r hr
    cases e
    obtain ⟨r', k1, k2⟩ := aindexAt_ok w hr (hρ _ _ hv)
    exact .value R (run_v (by rw [(hρ _ _ hi).flat_inv rfl]; exact k1)) k2
  case index t x i =>
    split at e
    · cases e
    rename_i v hv
    split at e
    case h_2 => cases e
    rename_i k n hi
    split at e
    · cases e
    rename_i r hr
    cases e
    obtain ⟨r', k1, k2⟩ := aindex_ok w hr (hρ _ _ hv)
    exact .value R (run_v (by rw [(hρ _ _ hi).flat_inv rfl]; exact k1)) k2
  case lookup t m k ok =>
    split at e
    · cases e
    rename_i m' hm
    split at e
    · cases e
    rename_i k' hk
    split at e
    · cases e
    rename_i r hr
    cases e
    obtain ⟨r', k1, k2⟩ := alookup_ok R hr (hρ _ _ hm) (hρ _ _ hk)
    exact .value R (run_v k1) k2
  case mapUpdate t m k v =>
    split at e
    · cases e
    rename_i m' hm
    split at e
    · cases e
    rename_i k' hk
    split at e
    · cases e
    rename_i v' hv
    split at e
    · cases e
    rename_i h1 hst
    cases e
    obtain ⟨w', k1, k2⟩ := amapUpdate_ok R hst (hρ _ _ hm) (hρ _ _ hk) (hρ _ _ hv)
    exact ⟨φ, w', φ.le_refl, k2, undef, .inr ⟨run_u k1, rfl⟩, .of_tuples .nil⟩
  case typeAssert x xt asserted ok =>
    split at e
    · cases e
    rename_i v hv
    split at e
    · cases e
    rename_i r hr
    cases e
    obtain ⟨r', k1, k2⟩ := atypeAssert_ok (xt := xt) w hr (hρ _ _ hv)
    exact .value R (run_v k1) k2
  case extract t i =>
    split at e
    · cases e
    rename_i v hv
    split at e
    · cases e
    rename_i r hr
    cases e
    obtain ⟨r', k1, k2⟩ := aextract_ok w hr (hρ _ _ hv)
    exact .value R (run_v k1) k2
  case call c => exact acall_ok hX hN R hρ e
  all_goals cases e
end
end Go.Ab
namespace Go.Ab
open Go.RowKit
set_option linter.unusedVariables false
set_option linter.unusedSectionVars false

section
variable [Sg] {P : Program} {W : World} {K : Nat} {J : Nat → Option Obj} {φ : Map} {h h' : AHeap} {w : World}

def aval (K : Nat) (e : PT Value) : Operand → Option Value
  | .tmp t => e.get t
  | .const v => if clean v = true then some v else none
  | .global g => if g < K then some (.pointer (some ⟨g, 0, none⟩)) else none
  | .func f => some (.func (.func f) #[] #[])

/-- A frame's slots, as far as they are known. -/
structure ER (φ : Map) (n : Nat) (e : PT Value) (tmps : Array Value) : Prop where
  size : tmps.size = n
  get : ∀ i v, e.get i = some v → ∃ v', tmps[i]? = some v' ∧ VR φ v v'
theorem ER.mono {ψ : Map} (hle : φ.le ψ) {n : Nat} {e : PT Value} {tmps : Array Value} (r : ER φ n e tmps) : ER ψ n e tmps :=
  ⟨r.size, fun i v hv => by obtain ⟨v', h1, h2⟩ := r.get i v hv; exact ⟨v', h1, h2.mono hle⟩⟩

theorem aval_ok (R : Rel P W K J φ h w) {n : Nat} {e : PT Value} {a : Act} (E : ER φ n e a.tmps) : ∀ x v, aval K e x = some v → VR φ v (a.eval x) := by
  intro x v hx
  cases x with
  | tmp t =>
    obtain ⟨v', h1, h2⟩ := E.get t v hx
    simp only [Act.eval, Array.getD_eq_getD_getElem?, h1, Option.getD_some]
    exact h2
  | const u =>
    simp only [aval] at hx
    split at hx
    · rename_i hc; cases hx; exact clean_self hc
    · cases hx
  | global g =>
    simp only [aval] at hx
    split at hx
    · rename_i hg
      cases hx
      obtain ⟨cs, es, hs⟩ := R.self g hg
      exact .ptr (a := ⟨g, 0, none⟩) (x := ⟨g, 0, es, cs, false⟩) hs rfl
    · cases hx
  | func f =>
    simp only [aval, Option.some.injEq] at hx
    subst hx
    exact .func rfl (fun i h1 => by simp at h1) rfl (fun i h1 => by simp at h1)

def aput (e : PT Value) (d : Option Tmp) (v : Value) : PT Value :=
  match d with
  | some d => e.set d v
  | none => e
def dstOk (n : Nat) (o : Oper) : Bool :=
  match o.dst with
  | some d => decide (d < n)
  | none => true
theorem ER.put {n : Nat} {e : PT Value} {a : Act} (E : ER φ n e a.tmps) {o : Oper} (hd : dstOk n o = true) {v v' : Value} (hv : VR φ v v') : ER φ n (aput e o.dst v) (a.put o.dst v').tmps := by
  unfold aput Act.put
  unfold dstOk at hd
  cases hdst : o.dst with
  | none => exact E
  | some d =>
    rw [hdst] at hd
    simp only [decide_eq_true_eq] at hd
    refine ⟨by simpa using E.size, fun i u hu => ?_⟩
    rw [PT.get_set] at hu
    by_cases hi : d = i
    · subst hi
      rw [if_pos rfl] at hu; cases hu
      exact ⟨v', by simp [E.size, hd], hv⟩
    · rw [if_neg hi] at hu
      obtain ⟨u', h1, h2⟩ := E.get i u hu
      exact ⟨u', by simp only [Array.getElem?_setIfInBounds_ne hi]; exact h1, h2⟩
theorem VR.undef {φ : Map} : VR φ undef undef := .of_tuples .nil

def awanted (ops : Array Oper) (o : Oper) (e : PT Value) : Option Bool :=
  match o.guard with
  | none => some true
  | some (j, want) => match (ops[j]?).bind (·.dst) with
    | none => none
    | some d => match e.get d with
      | some (.bool b) => some (b == want)
      | some (.tuple _) => some false
      | _ => none
theorem awanted_ok {ops : Array Oper} {o : Oper} {n : Nat} {e : PT Value} {tmps : Array Value} {b : Bool} (E : ER φ n e tmps) (h : awanted ops o e = some b) : Region.wanted o (yielded ops tmps) = b := by
  unfold awanted at h
  unfold Region.wanted
  split at h
  · rename_i hg; cases h; rw [hg]
  · rename_i j want hg
    rw [hg]
    simp only
    split at h
    · cases h
    rename_i d hd
    unfold yielded
    rw [hd]
    simp only [Option.bind_some]
    split at h
    · rename_i b' hb
      cases h
      obtain ⟨v', h1, h2⟩ := E.get _ _ hb
      have := h2.flat_inv rfl
      subst this
      rw [h1]
      cases b' <;> cases want <;> rfl
    · rename_i c hc
      cases h
      obtain ⟨v', h1, h2⟩ := E.get _ _ hc
      obtain ⟨c', rfl, _⟩ := h2.tuple_inv
      rw [h1]
      rfl
    · cases h

abbrev ACall := FuncId → List Value → AHeap → Option (Value × AHeap)
/-- What calls come to. -/
def CallGood (P : Program) (W : World) (K : Nat) (call : ACall) : Prop :=
  ∀ f args h r h', call f args h = some (r, h') → ∀ J φ w args', Rel P W K J φ h w → VRs φ args args' →
    Calls P f args'.toArray w fun en w' => ∃ ψ r', φ.le ψ ∧ en = .returned r' ∧ VR ψ r r' ∧ Rel P W K J ψ h' w'

/-- An operation that is wanted, whatever it calls. -/
def astep (P : Program) (K : Nat) (X : Ext) (call : ACall) (op : Op) (e : PT Value) (h : AHeap) : Option (Value × AHeap) :=
  match aexec P X op (aval K e) h with
  | none => none
  | some (.val v, h1) => some (v, h1)
  | some (.call f args, h1) => call f args h1
theorem astep_wp {X : Ext} (hX : ExtOk P W K X) (hN : NamesOk P) {call : ACall} (hc : CallGood P W K call) {o : Oper} {n : Nat} {e : PT Value} {a : Act} {v : Value} {Q : Exit → Act → World → Prop} {next : Act → World → Prop}
    (R : Rel P W K J φ h w) (E : ∀ x v, aval K e x = some v → VR φ v (a.eval x)) (he : astep P K X call o.op e h = some (v, h'))
    (hn : ∀ ψ w' v', φ.le ψ → Rel P W K J ψ h' w' → VR ψ v v' → next (a.put o.dst v') w') : o.wp P a w next Q := by
  unfold astep at he
  split at he
  · cases he
  · rename_i v1 h1 hx
    cases he
    obtain ⟨ψ, w', k1, k2, v', k3, k4⟩ := aexec_ok hX hN (o := o) R E hx
    unfold Oper.wp
    rcases k3 with k3 | ⟨k3, rfl⟩
    · rw [k3]; exact hn ψ w' v' k1 k2 k4
    · rw [k3]; exact hn ψ w' _ k1 k2 k4
  · rename_i f args h1 hx
    obtain ⟨ψ, w', k1, k2, args', k3, k4⟩ := aexec_ok hX hN (o := o) R E hx
    unfold Oper.wp
    rw [k3, Oper.upon_enter]
    have e2 : args' = args'.toList.toArray := by simp
    rw [e2]
    refine (hc f args h1 v h' he J ψ w' _ k2 k4).mono ?_
    rintro en w2 ⟨χ, r', g1, rfl, g2, g3⟩
    exact hn χ w2 r' (Map.le_trans k1 g1) g3 g2

def aops (P : Program) (K : Nat) (X : Ext) (call : ACall) (ops : Array Oper) : List Oper → PT Value → AHeap → Option (PT Value × AHeap)
  | [], e, h => some (e, h)
  | o :: r, e, h => match awanted ops o e with
    | none => none
    | some false => aops P K X call ops r (aput e o.dst undef) h
    | some true => match astep P K X call o.op e h with
      | none => none
      | some (v, h1) => aops P K X call ops r (aput e o.dst v) h1

/-- What an evaluation says of the model's. -/
def Post (P : Program) (W : World) (K : Nat) (J : Nat → Option Obj) (φ : Map) (n : Nat) (x : Exit) (e' : PT Value) (h' : AHeap) : Exit → Act → World → Prop :=
  fun y a' w' => y = x ∧ a'.defers = [] ∧ ∃ ψ, φ.le ψ ∧ Rel P W K J ψ h' w' ∧ ER ψ n e' a'.tmps

theorem Act.put_defers' (a : Act) (d : Option Tmp) (v : Value) : (a.put d v).defers = a.defers := by cases d <;> rfl

theorem aops_ok {X : Ext} (hX : ExtOk P W K X) (hN : NamesOk P) {call : ACall} (hc : CallGood P W K call) {ops : Array Oper} {n : Nat} (hd : ∀ o ∈ ops.toList, dstOk n o = true) {e' : PT Value} {Q : Exit → Act → World → Prop} :
    ∀ (l : List Oper) (i : Nat) (φ : Map) (e : PT Value) (h : AHeap) (a : Act) (w : World), (∀ j, l[j]? = ops[i + j]?) → aops P K X call ops l e h = some (e', h') → Rel P W K J φ h w → ER φ n e a.tmps → a.defers = [] →
      (∀ a' w', Post P W K J φ n .normal e' h' .normal a' w' → Q .normal a' w') → wpOps P ops Q (List.range' i l.length) a w := by
  intro l
  induction l with
  | nil =>
    intro i φ e h a w hl he R E hdf hq
    simp only [aops, Option.some.injEq, Prod.mk.injEq] at he
    obtain ⟨rfl, rfl⟩ := he
    exact hq a w ⟨rfl, hdf, φ, φ.le_refl, R, E⟩
  | cons o r ih =>
    intro i φ e h a w hl he R E hdf hq
    have hoi : ops[i]? = some o := by have := hl 0; simpa using this.symm
    have hmem : dstOk n o = true := hd o (by simpa using List.mem_of_getElem? (show ops.toList[i]? = some o by simpa using hoi))
    have hl' : ∀ j, r[j]? = ops[i + 1 + j]? := fun j => by
      have := hl (j + 1)
      rw [List.getElem?_cons_succ] at this
      rw [this, show i + (j + 1) = i + 1 + j by omega]
    simp only [aops] at he
    simp only [List.length_cons, List.range'_succ, wpOps, hoi]
    split at he
    · cases he
    · rename_i hw
      rw [awanted_ok E hw]
      simp only [Bool.false_eq_true, if_false]
      exact ih (i + 1) φ _ h _ w hl' he R (E.put hmem VR.undef) (by rw [Act.put_defers']; exact hdf) hq
    · rename_i hw
      rw [awanted_ok E hw]
      simp only [if_true]
      split at he
      · cases he
      rename_i v h1 hs
      refine .inl (astep_wp hX hN hc (n := n) R (aval_ok R E) hs fun ψ w' v' k1 k2 k3 => ?_)
      refine ih (i + 1) ψ _ h1 _ w' hl' he k2 ((E.mono k1).put hmem k3) (by rw [Act.put_defers']; exact hdf) fun a' w' hp => ?_
      obtain ⟨g1, g2, χ, g3, g4⟩ := hp
      exact hq a' w' ⟨g1, g2, χ, Map.le_trans k1 g3, g4⟩

theorem aregion_ok {X : Ext} (hX : ExtOk P W K X) (hN : NamesOk P) {call : ACall} (hc : CallGood P W K call) {ops : Array Oper} {n id : Nat} (hd : ∀ o ∈ ops.toList, dstOk n o = true) {e e' : PT Value} {a : Act}
    (he : aops P K X call ops ops.toList e h = some (e', h')) (R : Rel P W K J φ h w) (E : ER φ n e a.tmps) (hdf : a.defers = []) : (Code.region id ops false).wp P (Post P W K J φ n .normal e' h') a w := by
  refine wp_region ?_
  have := aops_ok hX hN hc hd (Q := Post P W K J φ n .normal e' h') ops.toList 0 φ e h a w (fun j => by simp) he R E hdf (fun a' w' hp => hp)
  rw [List.range_eq_range']
  simpa using this
end
end Go.Ab
