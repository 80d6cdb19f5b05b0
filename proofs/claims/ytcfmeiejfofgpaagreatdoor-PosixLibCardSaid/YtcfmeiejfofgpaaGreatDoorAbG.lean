/- The abstract evaluator: make, copy, maps, comparisons, conversions, type assertions; and that the model's do what they tell. -/
import Derived.Test.YtcfmeiejfofgpaaGreatDoorAbF
namespace Go.Ab
open Go.RowKit
set_option linter.unusedVariables false
set_option linter.unusedSectionVars false

section
variable [Sg] {P : Program} {W : World} {K : Nat} {J : Nat → Option Obj} {φ : Map} {h h' : AHeap} {w : World}

/-! ### make -/
/-- A tree with the same thing everywhere. -/
def fullT : Nat → Value → PT Value
  | 0, _ => .nil
  | k + 1, u => .node (some u) (fullT k u) (fullT k u)
omit [Sg] in
theorem fullT_get (u : Value) : ∀ (k i : Nat) (v : Value), (fullT k u).get i = some v → v = u
  | 0, i, v, h => by cases h
  | k + 1, i, v, h => by
    simp only [fullT, PT.get_node] at h
    split at h
    · cases h; rfl
    · split at h
      · exact fullT_get u k _ v h
      · exact fullT_get u k _ v h
/-- Zeros. -/
def zeroT (z : Array Value) (m : Nat) : PT Value := match z.toList with
  | [u] => fullT 20 u
  | _ => PT.ofList (azeros (if m = 0 then #[] else z) m).toList
omit [Sg] in
theorem zeroT_get {z : Array Value} {m i : Nat} {v : Value} (hi : i < m) (h : (zeroT z m).get i = some v) : (PT.ofList (azeros (if m = 0 then #[] else z) m).toList).get i = some v := by
  unfold zeroT at h
  split at h
  · rename_i u hz
    have hv := fullT_get u _ _ _ h
    subst hv
    have hz' : z = #[v] := by rw [← Array.toArray_toList (xs := z), hz]
    subst hz'
    rw [PT.get_ofList, if_neg (by omega)]
    simp [azeros, hi, Nat.mod_one]
  · exact h
def amakeSlice (P : Program) (t : TypeId) (vl vc : Value) (h : AHeap) : Option (Value × AHeap) :=
  match vl, vc with
  | .int _ l, .int _ c => match P.underlying t with
    | some (.slice elem) => match P.info? elem with
      | none => none
      | some i => match i.zero with
        | none => none
        | some z => if 0 ≤ l ∧ l ≤ c ∧ c * i.bytes ≤ 2 ^ 48 ∧ c < 2 ^ 62 ∧ z.cells.toList.all noAddr = true ∧ 0 < z.cells.size then
            some (.slice (some ⟨h.next, 0, none⟩) l.toNat c.toNat, h.new (.cells (zeroT z.cells (c.toNat * i.size)) (c.toNat * i.size) elem))
          else none
    | _ => none
  | _, _ => none
theorem wrap_in {n : Int} (h0 : 0 ≤ n) (h1 : n < 2 ^ 63) : IntKind.i64.wrap n = n := by
  have e : n % (2 ^ IntKind.i64.bits : Int) = n := Int.emod_eq_of_lt h0 (by have : (2 ^ IntKind.i64.bits : Int) = 2 ^ 64 := rfl; omega)
  unfold IntKind.wrap
  simp only [e]
  rw [if_neg]
  have : (2 ^ (IntKind.i64.bits - 1) : Int) = 2 ^ 63 := rfl
  simp only [this, Bool.and_eq_true, decide_eq_true_eq, not_and]
  intro _
  omega
theorem amakeSlice_ok {t : TypeId} {vl vc vl' vc' v : Value} (R : Rel P W K J φ h w) (e : amakeSlice P t vl vc h = some (v, h')) (hl : VR φ vl vl') (hc : VR φ vc vc') :
    ∃ ψ w' v', φ.le ψ ∧ (Instr.makeSlice t vl' vc').run P w = .ok v' w' ∧ Rel P W K J ψ h' w' ∧ VR ψ v v' := by
  unfold amakeSlice at e
  split at e
  case h_2 => cases e
  rename_i kl l kc c
  have := hl.flat_inv rfl
  subst this
  have := hc.flat_inv rfl
  subst this
  split at e
  case h_2 => cases e
  rename_i elem hu
  split at e
  · cases e
  rename_i i hi
  split at e
  · cases e
  rename_i z hz
  split at e
  case isFalse => cases e
  rename_i hcond
  obtain ⟨c1, c2, c3, c4, c5, c6⟩ := hcond
  cases e
  have hlw : IntKind.i64.wrap l = l := wrap_in c1 (by omega)
  have hcw : IntKind.i64.wrap c = c := wrap_in (by omega) (by omega)
  have hzz : VRs φ (azeros (if c.toNat * i.size = 0 then #[] else z.cells) (c.toNat * i.size)).toList (azeros (if c.toNat * i.size = 0 then #[] else z.cells) (c.toNat * i.size)).toList := by
    refine VRs.of_flat (azeros_flat ?_ ?_)
    · split
      · rfl
      · exact c5
    · by_cases h0 : c.toNat * i.size = 0
      · exact .inr h0
      · rw [if_neg h0]; exact .inl c6
  obtain ⟨ψ, k1, k2, k3, k4⟩ := R.newRow hzz elem 0 #[] false (fun h => by cases h)
  have hsz : (azeros (if c.toNat * i.size = 0 then #[] else z.cells) (c.toNat * i.size)).toList.length = c.toNat * i.size := by simp [azeros]
  rw [hsz] at k2 k4
  have e2 : (azeros (if c.toNat * i.size = 0 then #[] else z.cells) (c.toNat * i.size)).toList.toArray ++ #[] = azeros (if c.toNat * i.size = 0 then #[] else z.cells) (c.toNat * i.size) := by simp
  rw [e2] at k3 k4
  have k4 : Rel P W K J ψ (h.new (.cells (zeroT z.cells (c.toNat * i.size)) (c.toNat * i.size) elem)) (w.alloc (Obj.cells (azeros (if c.toNat * i.size = 0 then #[] else z.cells) (c.toNat * i.size)) elem)) := by
    refine (k4.recell (B := h.next) (N := c.toNat * i.size) (c' := zeroT z.cells (c.toNat * i.size)) (by simp only [AHeap.new, PT.get_set_eq]; rfl) k2 (by simp) (fun j u hj hu => ⟨hj, zeroT_get hj hu⟩)).congr (fun B => ?_) rfl rfl
    simp only [AHeap.new, PT.get_set]
    split <;> rfl
  refine ⟨ψ, _, .slice (some ⟨w.heap.size, 0, none⟩) l.toNat c.toNat, k1, ?_, k4, .slice (a := ⟨h.next, 0, none⟩) k2 rfl (by omega) (Nat.le_refl _) (.inl rfl) (.inl (by simp))⟩
  have hb1 : ¬ ((i.bytes : Int) * c > 2 ^ 48) := by rw [Int.mul_comm]; omega
  simp only [Instr.makeSlice, Sem.run_bind, run_underlying w hu, Result.andThen_ok, asInt, asIntOf, Sem.run_pure, run_typeInfo w hi, hlw, hcw]
  have hd : (decide (c < 0) || decide ((i.bytes : Int) * c > 2 ^ 48) || decide (l < 0) || decide (l > c)) = false := by
    simp only [Bool.or_eq_false_iff, decide_eq_false_iff_not]
    exact ⟨⟨⟨by omega, hb1⟩, by omega⟩, by omega⟩
  rw [if_neg (by simpa using hd)]
  simp only [Sem.run_bind, run_askRoom, Result.andThen_ok, run_sizeOf w hi]
  unfold azeros at k3
  split
  · rename_i h0
    rw [if_pos h0] at k3
    simp only [Sem.run_bind, Sem.run_pure, Result.andThen_ok, k3]
    rfl
  · rename_i h0
    rw [if_neg h0] at k3
    simp only [Sem.run_bind, Sem.run_pure, Result.andThen_ok, run_zeroValue w hi hz, k3]
    rfl

/-! ### copy -/
def acopy (P : Program) (dt : TypeId) (d s : Value) (h : AHeap) : Option (Value × AHeap) :=
  match P.underlying dt with
  | some (.slice elem) => match P.info? elem with
    | none => none
    | some i => match sliceLen s with
      | none => none
      | some m => match d with
        | .slice (some a) len _ => match srcCells h i.size (Nat.min m len) s with
          | none => none
          | some cs => match h.store a cs with
            | none => none
            | some h1 => some (.int .i64 (Nat.min m len : Nat), h1)
        | _ => none
  | _ => none
theorem acopy_ok {dt ty : TypeId} {ts : Array TypeId} {d d' s s' v : Value} (R : Rel P W K J φ h w) (ht : ts[0]? = some dt) (e : acopy P dt d s h = some (v, h')) (hd : VR φ d d') (hs : VR φ s s') :
    ∃ ψ w' v', φ.le ψ ∧ (Builtin.copy_ ts ty #[d', s']).run P w = .ok v' w' ∧ Rel P W K J ψ h' w' ∧ VR ψ v v' := by
  unfold acopy at e
  split at e
  case h_2 => cases e
  rename_i elem hu
  split at e
  · cases e
  rename_i i hi
  split at e
  · cases e
  rename_i m hm
  split at e
  case h_2 => cases e
  rename_i a len cap
  obtain ⟨x, cap', o, hx, hsp, hl1, hl2, hg, ho, rfl⟩ := hd.slice_inv
  split at e
  · cases e
  rename_i cs hcs
  split at e
  · cases e
  rename_i h1 hst
  cases e
  have hmin : Nat.min m len ≤ m := Nat.min_le_left _ _
  have hmin2 : Nat.min m len ≤ len := Nat.min_le_right _ _
  obtain ⟨cs', hrun, hv, hlen⟩ := firstCells_ok R hcs hs (fun k hk => by rw [hm] at hk; cases hk; exact hmin)
  obtain ⟨w', hrun2, R'⟩ := R.store hst hx hv
  refine ⟨φ, w', goInt (Nat.min m len), φ.le_refl, ?_, R', .flat rfl⟩
  have hlen' := sliceLen_eq (P := P) hm hs w
  unfold Builtin.copy_
  simp only [ht, List.getElem?_toArray, List.getElem?_cons_zero, List.getElem?_cons_succ, Sem.run_bind, run_underlying w hu, Result.andThen_ok, hlen', run_sizeOf w hi, hrun]
  rcases ho with ho | ho
  · subst ho
    simp only [hrun2, Result.andThen_ok, Sem.run_pure]
  · have h0 : Nat.min m len = 0 := by omega
    rw [h0, Nat.zero_mul] at hlen
    have : cs = [] := List.length_eq_zero_iff.1 hlen
    subst this
    cases hv
    simp only [storeCells, Sem.run_pure, Result.ok.injEq] at hrun2 ⊢
    rw [hrun2.2]
    simp only [Result.andThen_ok]

/-! ### maps -/
def plainKey : Value → Bool
  | .int _ _ | .string _ | .bool _ => true
  | _ => false
theorem checkKey_plain {t : TypeId} {k : Value} (w : World) (b : Bool) (n : Nat) (hk : plainKey k = true) (hu : ∃ d, P.underlying t = some d ∧ (∀ ms, d ≠ .interface ms) ∧ (∀ l e, d ≠ .array l e) ∧ ∀ fs, d ≠ .struct fs) :
    (Instr.checkKey b (n + 1) t k).run P w = .ok () w := by
  obtain ⟨d, hd, h1, h2, h3⟩ := hu
  simp only [Instr.checkKey, Sem.run_bind, run_underlying w hd, Result.andThen_ok]
  cases d <;> first | (exact absurd rfl (h1 _)) | (exact absurd rfl (h2 _ _)) | (exact absurd rfl (h3 _)) | (cases k <;> first | rfl | (simp [plainKey] at hk; done))

theorem findNow_ok {kind : TypeDesc} {k : Value} (hk : plainKey k = true) : ∀ (es es' : List MapEntry) (i : Nat), ERs φ es es' → ∀ r, Instr.findNow kind k es i = some r →
    (r = none → Instr.findNow kind k es' i = some none) ∧ ∀ j v, r = some (j, v) → ∃ v', Instr.findNow kind k es' i = some (some (j, v')) ∧ VR φ v v' := by
  intro es es' i he
  induction he generalizing i with
  | nil => intro r e; simp only [Instr.findNow, Option.some.injEq] at e; subst e; exact ⟨fun _ => rfl, fun j v h => by cases h⟩
  | @cons x y l l' h1 h2 h3 _ ih =>
    intro r e
    simp only [Instr.findNow] at e
    have hkey : ∀ b, Instr.sameNow kind k x.key = some b → y.key = x.key := by
      intro b hb
      refine h1.flat_inv ?_
      cases hx : x.key <;> first | rfl | (rw [hx] at hb; cases kind <;> cases k <;> simp [Instr.sameNow] at hb)
    split at e
    · rename_i hs
      cases e
      refine ⟨fun h => (by cases h), fun j v h => ?_⟩
      cases h
      exact ⟨y.val, by simp only [Instr.findNow, hkey _ hs, hs], h2⟩
    · rename_i hs
      obtain ⟨g1, g2⟩ := ih (i + 1) r e
      refine ⟨fun h => ?_, fun j v h => ?_⟩
      · simp only [Instr.findNow, hkey _ hs, hs]; exact g1 h
      · obtain ⟨v', g3, g4⟩ := g2 j v h
        exact ⟨v', by simp only [Instr.findNow, hkey _ hs, hs]; exact g3, g4⟩
    · cases e

def keyOk (P : Program) (t : TypeId) (k : Value) : Option TypeDesc :=
  match P.underlying t with
  | some (.int i) => match k with | .int _ _ => some (.int i) | _ => none
  | some .string => match k with | .string _ => some .string | _ => none
  | some .bool => match k with | .bool _ => some .bool | _ => none
  | _ => none
theorem keyOk_spec {t : TypeId} {k : Value} {d : TypeDesc} (e : keyOk P t k = some d) : P.underlying t = some d ∧ plainKey k = true ∧ (∀ ms, d ≠ .interface ms) ∧ (∀ l e, d ≠ .array l e) ∧ ∀ fs, d ≠ .struct fs := by
  unfold keyOk at e
  split at e <;> first | (cases e; done) | skip
  all_goals (rename_i hu; split at e <;> first | (cases e; done) | skip; cases e; exact ⟨hu, rfl, nofun, nofun, nofun⟩)

def alookup (P : Program) (t : TypeId) (m k : Value) (ok : Bool) (h : AHeap) : Option Value :=
  match P.underlying t with
  | some (.map kt et) => match keyOk P kt k with
    | none => none
    | some d => match P.info? et with
      | none => none
      | some i => match i.zero with
        | none => none
        | some z => if noAddr z = true ∨ z.cells.toList.all noAddr = true then
            match m with
            | .map none => some (if ok then .tuple #[z, .bool false] else z)
            | .map (some r) => match h.m.get r with
              | some (.map es _) => match Instr.findNow d k es 0 with
                | none => none
                | some none => some (if ok then .tuple #[z, .bool false] else z)
                | some (some (_, v)) => some (if ok then .tuple #[v, .bool true] else v)
              | _ => none
            | _ => none
          else none
  | _ => none
theorem zero_VR {z : Value} (hz : noAddr z = true ∨ z.cells.toList.all noAddr = true) : VR φ z z := by
  rcases hz with hz | hz
  · exact .flat hz
  · have := VRs.of_flat (φ := φ) hz
    cases z with
    | agg c => exact .of_aggs this
    | _ => exact (by simp only [Value.cells] at this; cases this; assumption)
theorem pair_VR {v v' : Value} (hv : VR φ v v') (b : Bool) : VR φ (.tuple #[v, .bool b]) (.tuple #[v', .bool b]) := .of_tuples (.cons hv (.cons (.flat rfl) .nil))
theorem alookup_ok {t : TypeId} {m m' k k' v : Value} {ok : Bool} (R : Rel P W K J φ h w) (e : alookup P t m k ok h = some v) (hm : VR φ m m') (hk : VR φ k k') :
    ∃ v', (Instr.lookup t m' k' ok).run P w = .ok v' w ∧ VR φ v v' := by
  unfold alookup at e
  split at e
  case h_2 => cases e
  rename_i kt et hu
  split at e
  · cases e
  rename_i d hd
  obtain ⟨hud, hpl, hne⟩ := keyOk_spec hd
  have hkk : k' = k := hk.flat_inv (by cases k <;> first | rfl | (simp [plainKey] at hpl))
  subst hkk
  split at e
  · cases e
  rename_i i hi
  split at e
  · cases e
  rename_i z hz
  split at e
  case isFalse => cases e
  rename_i hzf
  have hzv : VR φ z z := zero_VR hzf
  have hck : ∀ b, (Instr.checkKey b 10000 kt k').run P w = .ok () w := fun b => checkKey_plain w b 9999 hpl ⟨d, hud, hne⟩
  split at e
  · have := hm.flat_inv rfl
    subst this
    cases e
    refine ⟨if ok = true then .tuple #[z, .bool false] else z, ?_, ?_⟩
    · simp only [Instr.lookup, Sem.run_bind, run_underlying w hu, Result.andThen_ok, Sem.run_pure, hck, Instr.findKey, run_underlying w hud, Instr.findNow, run_zeroValue w hi hz]
    · split
      · exact pair_VR hzv false
      · exact hzv
  · rename_i r
    obtain ⟨x, hx, rfl⟩ := hm.map_inv
    split at e
    case h_2 => cases e
    rename_i es clock hes
    obtain ⟨y, hy, es', g1, g2⟩ := R.obj _ _ hes
    rw [hx] at hy; cases hy
    have hget : (getObj x.b).run P w = .ok (.map es' clock) w := by simp [getObj, Sem.run, g1]
    split at e
    · cases e
    · rename_i hf
      cases e
      have := (findNow_ok hpl es es'.toList 0 g2 _ hf).1 rfl
      refine ⟨if ok = true then .tuple #[z, .bool false] else z, ?_, ?_⟩
      · simp only [Instr.lookup, Sem.run_bind, run_underlying w hu, Result.andThen_ok, hget, Sem.run_pure, hck, Instr.findKey, run_underlying w hud, this, run_zeroValue w hi hz]
      · split
        · exact pair_VR hzv false
        · exact hzv
    · rename_i j u hf
      cases e
      obtain ⟨u', g3, g4⟩ := (findNow_ok hpl es es'.toList 0 g2 _ hf).2 j u rfl
      refine ⟨if ok = true then .tuple #[u', .bool true] else u', ?_, ?_⟩
      · simp only [Instr.lookup, Sem.run_bind, run_underlying w hu, Result.andThen_ok, hget, Sem.run_pure, hck, Instr.findKey, run_underlying w hud, g3]
      · split
        · exact pair_VR g4 true
        · exact g4
  · cases e

/-- One thing of the memory that is no row of cells, written. -/
theorem Rel.setMap (R : Rel P W K J φ h w) {r clock clock0 : Nat} {x : At} {es es0 : List MapEntry} {es' : Array MapEntry} (hr : h.m.get r = some (.map es0 clock0)) (hro : h.ro ≤ r) (hx : φ r = some x)
    (he : ERs φ es es'.toList) : (setObj x.b (.map es' clock)).run P w = .ok () { w with heap := w.heap.setIfInBounds x.b (.map es' clock) } ∧
    Rel P W K J φ { h with m := h.m.set r (.map es clock) } { w with heap := w.heap.setIfInBounds x.b (.map es' clock) } := by
  obtain ⟨y, hy, es1, g1, g2⟩ := R.obj _ _ hr
  rw [hx] at hy; cases hy
  have hlt := R.live_lt hr rfl hx
  have hheap : ∀ k, (w.heap.setIfInBounds x.b (.map es' clock))[k]? = if k = x.b then some (.map es' clock) else w.heap[k]? := by
    intro k
    rw [Array.getElem?_setIfInBounds]
    by_cases hk : x.b = k
    · subst hk; rw [if_pos rfl, if_pos rfl, if_pos hlt]
    · rw [if_neg hk, if_neg (fun h => hk h.symm)]
  refine ⟨by simp [setObj, Sem.run, g1], ?_⟩
  refine ⟨?_, ?_, R.dom, ?_, R.old, R.fix, fun B x e k => by simpa using R.size B x e k, R.self, R.ro, ?_, ?_⟩
  · refine ⟨R.below.os, R.below.tape, R.below.output, by simpa using R.below.size, fun k hk => ?_⟩
    have := R.old _ _ hx hro
    show (w.heap.setIfInBounds x.b (.map es' clock))[k]? = _
    rw [hheap, if_neg (by omega)]
    exact R.below.block k hk
  · intro D o hD
    rw [PT.get_set] at hD
    by_cases hBD : r = D
    · subst hBD
      rw [if_pos rfl] at hD; cases hD
      exact ⟨x, hx, es', by rw [hheap, if_pos rfl], he⟩
    · rw [if_neg hBD] at hD
      obtain ⟨y, hy, hobj⟩ := R.obj D o hD
      refine ⟨y, hy, ?_⟩
      cases o with
      | dead => trivial
      | map es clock =>
        have hne : y.b ≠ x.b := fun e => hBD (R.inj r D x y _ _ hr hD rfl rfl hx hy e.symm)
        obtain ⟨es', k1, k2⟩ := hobj
        exact ⟨es', by rw [hheap, if_neg hne]; exact k1, k2⟩
      | cells c' n' e' =>
        have hne : y.b ≠ x.b := fun e => hBD (R.inj r D x y _ _ hr hD rfl rfl hx hy e.symm)
        obtain ⟨C', f', E', k1, k2⟩ := hobj
        exact ⟨C', f', E', by rw [hheap, if_neg hne]; exact k1, k2⟩
  · intro D E y z o p hD hE l1 l2 e1 e2 e3
    rw [PT.get_set] at hD hE
    by_cases hBD : r = D
    · by_cases hBE : r = E
      · rw [← hBD, ← hBE]
      · rw [if_neg hBE] at hE
        rw [hBD] at hr
        exact R.inj D E y z _ p hr hE rfl l2 e1 e2 e3
    · rw [if_neg hBD] at hD
      by_cases hBE : r = E
      · rw [hBE] at hr
        exact R.inj D E y z o _ hD hr l1 rfl e1 e2 e3
      · rw [if_neg hBE] at hE
        exact R.inj D E y z o p hD hE l1 l2 e1 e2 e3
  · intro b O hb
    obtain ⟨j1, j2⟩ := R.junk b O hb
    exact ⟨by rw [hheap, if_neg (fun e => j2 r x hx e.symm)]; exact j1, j2⟩
  · intro B y c n E e1 e2 e3
    rw [PT.get_set] at e3
    split at e3
    · cases e3
    · exact R.es B y c n E e1 e2 e3

theorem ERs.length {l l' : List MapEntry} (r : ERs φ l l') : l.length = l'.length := by
  induction r with
  | nil => rfl
  | cons _ _ _ _ ih => simp [ih]
theorem ERs.push {l l' : List MapEntry} (r : ERs φ l l') {x y : MapEntry} (h1 : VR φ x.key y.key) (h2 : VR φ x.val y.val) (h3 : x.born = y.born) : ERs φ (l ++ [x]) (l' ++ [y]) := by
  induction r with
  | nil => exact .cons h1 h2 h3 .nil
  | cons a b c _ ih => exact .cons a b c ih
theorem ERs.modify {l l' : List MapEntry} (r : ERs φ l l') {f g : MapEntry → MapEntry} (hfg : ∀ x y : MapEntry, VR φ x.key y.key → VR φ x.val y.val → x.born = y.born → VR φ (f x).key (g y).key ∧ VR φ (f x).val (g y).val ∧ (f x).born = (g y).born) :
    ∀ i : Nat, ERs φ (l.modify i f) (l'.modify i g) := by
  induction r with
  | nil => intro i; simp; exact .nil
  | cons a b c r ih =>
    intro i
    cases i with
    | zero => obtain ⟨h1, h2, h3⟩ := hfg _ _ a b c; simpa using ERs.cons h1 h2 h3 r
    | succ i => simpa using ERs.cons a b c (ih i)
theorem ERs.erase {l l' : List MapEntry} (r : ERs φ l l') : ∀ i : Nat, ERs φ (l.eraseIdx i) (l'.eraseIdx i) := by
  induction r with
  | nil => intro i; simp; exact .nil
  | cons a b c r ih =>
    intro i
    cases i with
    | zero => simpa using r
    | succ i => simpa using ERs.cons a b c (ih i)

theorem findNow_key {d : TypeDesc} {k : Value} : ∀ (es : List MapEntry) (i j : Nat) (v : Value), Instr.findNow d k es i = some (some (j, v)) → ∃ e, es[j - i]? = some e ∧ i ≤ j ∧ Instr.sameNow d k e.key = some true := by
  intro es
  induction es with
  | nil => intro i j v h; simp [Instr.findNow] at h
  | cons e es ih =>
    intro i j v h
    simp only [Instr.findNow] at h
    split at h
    · rename_i hs
      cases h
      exact ⟨e, by simp, Nat.le_refl _, hs⟩
    · obtain ⟨e', h1, h2, h3⟩ := ih _ _ _ h
      refine ⟨e', ?_, by omega, h3⟩
      obtain ⟨m, hm⟩ : ∃ m, j - i = m + 1 := ⟨j - i - 1, by omega⟩
      rw [hm, List.getElem?_cons_succ, ← h1]
      congr 1; omega
    · cases h
theorem sameNow_eq {d : TypeDesc} {k u : Value} (h : Instr.sameNow d k u = some true) : u = k ∧ ∀ n, Instr.sameBits (n + 1) u k = true := by
  cases d <;> cases k <;> cases u <;> simp [Instr.sameNow] at h
  · rw [h]; exact ⟨rfl, fun n => by simp [Instr.sameBits]⟩
  · obtain ⟨h1, h2⟩ := h; rw [h1, h2]; exact ⟨rfl, fun n => by simp [Instr.sameBits]⟩
  · rename_i a b
    have e : a = b := by
      have : (a.data == b.data) = true := h
      exact ByteArray.ext (beq_iff_eq.1 this)
    subst e
    exact ⟨rfl, fun n => by simp only [Instr.sameBits]; exact h⟩

def amapUpdate (P : Program) (t : TypeId) (m k v : Value) (h : AHeap) : Option AHeap :=
  match P.underlying t with
  | some (.map kt _) => match keyOk P kt k with
    | none => none
    | some d => match m with
      | .map (some r) => match h.m.get r with
        | some (.map es clock) => if h.ro ≤ r then match Instr.findNow d k es 0 with
            | none => none
            | some none => some { h with m := h.m.set r (.map (es ++ [{ key := k, val := v, born := clock }]) (clock + 1)) }
            | some (some (i, _)) => some { h with m := h.m.set r (.map (es.modify i fun e => { e with key := k, val := v }) clock) }
          else none
        | _ => none
      | _ => none
  | _ => none
theorem amapUpdate_ok {t : TypeId} {m m' k k' v v' : Value} (R : Rel P W K J φ h w) (e : amapUpdate P t m k v h = some h') (hm : VR φ m m') (hk : VR φ k k') (hv : VR φ v v') :
    ∃ w', (Instr.mapUpdate t m' k' v').run P w = .ok () w' ∧ Rel P W K J φ h' w' := by
  unfold amapUpdate at e
  split at e
  case h_2 => cases e
  rename_i kt et hu
  split at e
  · cases e
  rename_i d hd
  obtain ⟨hud, hpl, hne⟩ := keyOk_spec hd
  have hkk : k' = k := hk.flat_inv (by cases k <;> first | rfl | (simp [plainKey] at hpl))
  subst hkk
  split at e
  case h_2 => cases e
  rename_i r
  obtain ⟨x, hx, rfl⟩ := hm.map_inv
  split at e
  case h_2 => cases e
  rename_i es clock hes
  split at e
  case isFalse => cases e
  rename_i hro
  obtain ⟨y, hy, es', g1, g2⟩ := R.obj _ _ hes
  rw [hx] at hy; cases hy
  have hget : (getObj x.b).run P w = .ok (.map es' clock) w := by simp [getObj, Sem.run, g1]
  have hck : ∀ b, (Instr.checkKey b 10000 kt k').run P w = .ok () w := fun b => checkKey_plain w b 9999 hpl ⟨d, hud, hne⟩
  split at e
  · cases e
  · rename_i hf
    cases e
    have hfn := (findNow_ok hpl es es'.toList 0 g2 _ hf).1 rfl
    obtain ⟨h1, h2⟩ := R.setMap (clock := clock + 1) (es := es ++ [{ key := k', val := v, born := clock }]) (es' := es'.push { key := k', val := v', born := clock }) hes hro hx
      (by rw [Array.toList_push]; exact g2.push hk hv rfl)
    refine ⟨_, ?_, h2⟩
    simp only [Instr.mapUpdate, Sem.run_bind, run_underlying w hu, Result.andThen_ok, hget, hck, Instr.findKey, run_underlying w hud, hfn, Sem.run_pure, h1]
  · rename_i j u hf
    cases e
    obtain ⟨u', hfn, _⟩ := (findNow_ok hpl es es'.toList 0 g2 _ hf).2 j u rfl
    obtain ⟨e0, q1, _, q2⟩ := findNow_key _ _ _ _ hfn
    rw [Nat.sub_zero] at q1
    obtain ⟨q3, q4⟩ := sameNow_eq q2
    have hkey : (((es'[j]?).map (·.key)).getD k') = k' := by
      rw [← Array.getElem?_toList, q1]; simp [q3]
    have hstay : (Instr.keyThatStays (((es'[j]?).map (·.key)).getD k') k').run P w = .ok k' w := by
      rw [hkey]
      unfold Instr.keyThatStays
      have := q4 9999
      rw [q3] at this
      rw [if_pos this]; rfl
    obtain ⟨h1, h2⟩ := R.setMap (clock := clock) (es := es.modify j fun e => { e with key := k', val := v }) (es' := es'.modify j fun e => { e with key := k', val := v' }) hes hro hx
      (by rw [Array.toList_modify]; exact ERs.modify g2 (f := fun e => { e with key := k', val := v }) (g := fun e => { e with key := k', val := v' }) (fun x y a b c => ⟨hk, hv, c⟩) j)
    refine ⟨_, ?_, h2⟩
    simp only [Instr.mapUpdate, Sem.run_bind, run_underlying w hu, Result.andThen_ok, hget, hck, Instr.findKey, run_underlying w hud, hfn, Sem.run_pure, hstay, h1]

def adelete (P : Program) (t : TypeId) (m k : Value) (h : AHeap) : Option AHeap :=
  match P.underlying t with
  | some (.map kt _) => match keyOk P kt k with
    | none => none
    | some d => match m with
      | .map (some r) => match h.m.get r with
        | some (.map es clock) => if h.ro ≤ r then match Instr.findNow d k es 0 with
            | none => none
            | some none => some { h with m := h.m.set r (.map es clock) }
            | some (some (i, _)) => some { h with m := h.m.set r (.map (es.eraseIdx i) clock) }
          else none
        | _ => none
      | _ => none
  | _ => none
theorem adelete_ok {t ty : TypeId} {ts : Array TypeId} {m m' k k' : Value} (R : Rel P W K J φ h w) (ht : ts[0]? = some t) (e : adelete P t m k h = some h') (hm : VR φ m m') (hk : VR φ k k') :
    ∃ w', (Builtin.delete_ ts ty #[m', k']).run P w = .ok (.tuple #[]) w' ∧ Rel P W K J φ h' w' := by
  unfold adelete at e
  split at e
  case h_2 => cases e
  rename_i kt et hu
  split at e
  · cases e
  rename_i d hd
  obtain ⟨hud, hpl, hne⟩ := keyOk_spec hd
  have hkk : k' = k := hk.flat_inv (by cases k <;> first | rfl | (simp [plainKey] at hpl))
  subst hkk
  split at e
  case h_2 => cases e
  rename_i r
  obtain ⟨x, hx, rfl⟩ := hm.map_inv
  split at e
  case h_2 => cases e
  rename_i es clock hes
  split at e
  case isFalse => cases e
  rename_i hro
  obtain ⟨y, hy, es', g1, g2⟩ := R.obj _ _ hes
  rw [hx] at hy; cases hy
  have hget : (getObj x.b).run P w = .ok (.map es' clock) w := by simp [getObj, Sem.run, g1]
  have hck : ∀ b, (Instr.checkKey b 10000 kt k').run P w = .ok () w := fun b => checkKey_plain w b 9999 hpl ⟨d, hud, hne⟩
  split at e
  · cases e
  · rename_i hf
    cases e
    have hfn := (findNow_ok hpl es es'.toList 0 g2 _ hf).1 rfl
    obtain ⟨h1, h2⟩ := R.setMap (clock := clock) (es := es) (es' := es') hes hro hx g2
    refine ⟨_, ?_, h2⟩
    simp only [Builtin.delete_, ht, List.getElem?_toArray, List.getElem?_cons_zero, List.getElem?_cons_succ, Sem.run_bind, run_underlying w hu, Result.andThen_ok, hget, hck, Instr.findKey, run_underlying w hud, hfn, Sem.run_pure, h1]
  · rename_i j u hf
    cases e
    obtain ⟨u', hfn, _⟩ := (findNow_ok hpl es es'.toList 0 g2 _ hf).2 j u rfl
    obtain ⟨h1, h2⟩ := R.setMap (clock := clock) (es := es.eraseIdx j) (es' := es'.eraseIdxIfInBounds j) hes hro hx
      (by
        have : (es'.eraseIdxIfInBounds j).toList = es'.toList.eraseIdx j := by simp
        rw [this]; exact g2.erase j)
    refine ⟨_, ?_, h2⟩
    simp only [Builtin.delete_, ht, List.getElem?_toArray, List.getElem?_cons_zero, List.getElem?_cons_succ, Sem.run_bind, run_underlying w hu, Result.andThen_ok, hget, hck, Instr.findKey, run_underlying w hud, hfn, Sem.run_pure, h1]
end
end Go.Ab
