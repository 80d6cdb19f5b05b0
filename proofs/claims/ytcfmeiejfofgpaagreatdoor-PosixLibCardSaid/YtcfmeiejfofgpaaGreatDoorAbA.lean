/- Trees that map numbers to things; the abstract memory; when a value, and a memory, of the abstract evaluator stands for one of the model's. -/
import Derived.Calls
import Derived.Below
import Derived.Laws.Sem
import Derived.Laws.World
namespace Go.Ab
open Go.RowKit
set_option linter.unusedVariables false
set_option linter.unusedSectionVars false
set_option linter.unusedSimpArgs false

/-! ### Trees -/
inductive PT (α : Type) where
  | nil
  | node (v : Option α) (l r : PT α)

namespace PT
variable {α : Type}
def get : PT α → Nat → Option α
  | .nil, _ => none
  | .node v l r, i => cond (Nat.beq i 0) v (cond (Nat.beq (Nat.mod i 2) 1) (l.get (Nat.div i 2)) (r.get (Nat.sub (Nat.div i 2) 1)))

def setF : Nat → PT α → Nat → α → PT α
  | 0, t, _, _ => t
  | k + 1, .nil, i, a => cond (Nat.beq i 0) (.node (some a) .nil .nil) (cond (Nat.beq (Nat.mod i 2) 1) (.node none (setF k .nil (Nat.div i 2) a) .nil) (.node none .nil (setF k .nil (Nat.sub (Nat.div i 2) 1) a)))
  | k + 1, .node v l r, i, a => cond (Nat.beq i 0) (.node (some a) l r) (cond (Nat.beq (Nat.mod i 2) 1) (.node v (setF k l (Nat.div i 2) a) r) (.node v l (setF k r (Nat.sub (Nat.div i 2) 1) a)))
theorem cond_beq {β : Type} (i j : Nat) (x y : β) : cond (Nat.beq i j) x y = if i = j then x else y := by
  by_cases h : i = j
  · subst h; simp
  · have h2 : Nat.beq i j = false := by
      rw [Bool.eq_false_iff]
      exact fun e => h (Nat.eq_of_beq_eq_true e)
    rw [if_neg h, h2]; rfl
theorem get_node (v : Option α) (l r : PT α) (i : Nat) : (PT.node v l r).get i = if i = 0 then v else if i % 2 = 1 then l.get (i / 2) else r.get (i / 2 - 1) := by
  simp only [get, cond_beq]; rfl
theorem setF_nil (k i : Nat) (a : α) : setF (k + 1) .nil i a = if i = 0 then .node (some a) .nil .nil else if i % 2 = 1 then .node none (setF k .nil (i / 2) a) .nil else .node none .nil (setF k .nil (i / 2 - 1) a) := by
  simp only [setF, cond_beq]; rfl
theorem setF_node (k i : Nat) (a : α) (v : Option α) (l r : PT α) : setF (k + 1) (.node v l r) i a = if i = 0 then .node (some a) l r else if i % 2 = 1 then .node v (setF k l (i / 2) a) r else .node v l (setF k r (i / 2 - 1) a) := by
  simp only [setF, cond_beq]; rfl

def set (t : PT α) (i : Nat) (a : α) : PT α := setF (i + 1) t i a

@[simp] theorem get_nil (i : Nat) : (PT.nil : PT α).get i = none := rfl

theorem get_setF_eq : ∀ (k : Nat) (t : PT α) (i : Nat) (a : α), i < k → (setF k t i a).get i = some a := by
  intro k
  induction k with
  | zero => intro t i a h; omega
  | succ k ih =>
    intro t i a h
    cases t with
    | nil =>
      simp only [setF_nil, setF_node]
      split
      · simp [get_node, *]
      · rename_i h0
        split
        · rename_i h1
          simp only [get_node, h0, h1, if_true, if_false]
          exact ih _ _ _ (by omega)
        · rename_i h1
          simp only [get_node, h0, h1, if_false]
          exact ih _ _ _ (by omega)
    | node v l r =>
      simp only [setF_nil, setF_node]
      split
      · simp [get_node, *]
      · rename_i h0
        split
        · rename_i h1
          simp only [get_node, h0, h1, if_true, if_false]
          exact ih _ _ _ (by omega)
        · rename_i h1
          simp only [get_node, h0, h1, if_false]
          exact ih _ _ _ (by omega)

theorem get_setF_ne : ∀ (k : Nat) (t : PT α) (i j : Nat) (a : α), i ≠ j → (setF k t i a).get j = t.get j := by
  intro k
  induction k with
  | zero => intro t i j a h; rfl
  | succ k ih =>
    intro t i j a h
    cases t with
    | nil =>
      simp only [setF_nil, setF_node]
      split
      · rename_i h0
        subst h0
        simp only [get_node, get_nil]
        rw [if_neg (fun e => h e.symm)]
        split <;> rfl
      · rename_i h0
        split
        · rename_i h1
          simp only [get_node, get_nil]
          split
          · rfl
          · split
            · rw [ih _ _ _ _ (by omega)]; rfl
            · rfl
        · rename_i h1
          simp only [get_node, get_nil]
          split
          · rfl
          · split
            · rfl
            · rw [ih _ _ _ _ (by omega)]; rfl
    | node v l r =>
      simp only [setF_nil, setF_node]
      split
      · rename_i h0
        subst h0
        simp only [get_node, get_nil]
        rw [if_neg (c := j = 0) (fun e => h e.symm)]
        rw [if_neg (c := j = 0) (fun e => h e.symm)]
      · rename_i h0
        split
        · rename_i h1
          simp only [get_node, get_nil]
          split
          · rfl
          · split
            · rw [ih _ _ _ _ (by omega)]
            · rfl
        · rename_i h1
          simp only [get_node, get_nil]
          split
          · rfl
          · split
            · rfl
            · rw [ih _ _ _ _ (by omega)]

@[simp] theorem get_set_eq (t : PT α) (i : Nat) (a : α) : (t.set i a).get i = some a := get_setF_eq _ _ _ _ (Nat.lt_succ_self i)
theorem get_set_ne (t : PT α) {i j : Nat} (a : α) (h : i ≠ j) : (t.set i a).get j = t.get j := get_setF_ne _ _ _ _ _ h
theorem get_set (t : PT α) (i j : Nat) (a : α) : (t.set i a).get j = if i = j then some a else t.get j := by
  by_cases h : i = j
  · subst h; simp
  · rw [get_set_ne _ _ h, if_neg h]

/-- A row of things from a place on. -/
def put (t : PT α) (i : Nat) : List α → PT α
  | [] => t
  | a :: l => (t.set i a).put (i + 1) l

theorem get_put : ∀ (l : List α) (t : PT α) (i j : Nat), (t.put i l).get j = if i ≤ j ∧ j < i + l.length then l[j - i]? else t.get j := by
  intro l
  induction l with
  | nil => intro t i j; simp only [put, List.length_nil]; rw [if_neg (by omega)]
  | cons a l ih =>
    intro t i j
    simp only [put, ih, List.length_cons]
    by_cases h : i + 1 ≤ j ∧ j < i + 1 + l.length
    · rw [if_pos h, if_pos (by omega)]
      obtain ⟨k, hk⟩ : ∃ k, j - i = k + 1 := ⟨j - i - 1, by omega⟩
      rw [hk, show j - (i + 1) = k from by omega, List.getElem?_cons_succ]
    · rw [if_neg h, get_set]
      by_cases e : i = j
      · subst e; rw [if_pos rfl, if_pos (by omega)]; simp
      · rw [if_neg e, if_neg (by omega)]

def ofList (l : List α) : PT α := PT.nil.put 0 l
theorem get_ofList (l : List α) (j : Nat) : (ofList l).get j = l[j]? := by
  unfold ofList
  rw [get_put]
  by_cases h : 0 ≤ j ∧ j < 0 + l.length
  · rw [if_pos h]; simp
  · rw [if_neg h, get_nil, List.getElem?_eq_none (by omega)]

/-- n things from a place on. -/
def row (t : PT α) (i : Nat) : Nat → Option (List α)
  | 0 => some []
  | n + 1 => match t.get i with
    | some a => match t.row (i + 1) n with
      | some l => some (a :: l)
      | none => none
    | none => none

theorem row_spec : ∀ (n : Nat) (t : PT α) (i : Nat) (l : List α), t.row i n = some l → l.length = n ∧ ∀ j, j < n → t.get (i + j) = l[j]? := by
  intro n
  induction n with
  | zero => intro t i l h; simp only [row, Option.some.injEq] at h; subst h; exact ⟨rfl, fun j hj => by omega⟩
  | succ n ih =>
    intro t i l h
    simp only [row] at h
    split at h
    · rename_i a ha
      split at h
      · rename_i l' hl
        simp only [Option.some.injEq] at h
        subst h
        obtain ⟨h1, h2⟩ := ih _ _ _ hl
        refine ⟨by simp [h1], fun j hj => ?_⟩
        cases j with
        | zero => simpa using ha
        | succ j =>
          rw [List.getElem?_cons_succ, ← h2 j (by omega), show i + 1 + j = i + (j + 1) by omega]
      · cases h
    · cases h
theorem row_of : ∀ (n : Nat) (t : PT α) (i : Nat) (l : List α), l.length = n → (∀ j, j < n → t.get (i + j) = l[j]?) → t.row i n = some l := by
  intro n
  induction n with
  | zero => intro t i l h _; rw [List.length_eq_zero_iff.1 h]; rfl
  | succ n ih =>
    intro t i l h hg
    cases l with
    | nil => simp at h
    | cons a l =>
      have h0 := hg 0 (by omega)
      simp at h0
      have hr := ih t (i + 1) l (by simpa using h) (fun j hj => by
        have := hg (j + 1) (by omega)
        rw [List.getElem?_cons_succ] at this
        rw [← this, show i + 1 + j = i + (j + 1) by omega])
      simp only [row, h0, hr]
end PT

/-! ### Values -/
/-- Where a block of the abstract memory lies: in which block, from which cell on; the size of its elements; how many cells that block has; whether slices of it may have more room than it seems. -/
structure At where
  b : Nat
  d : Nat
  es : Nat
  cs : Nat
  grow : Bool
abbrev Map := Nat → Option At
def Map.le (φ ψ : Map) : Prop := ∀ B x, φ B = some x → ψ B = some x
theorem Map.le_refl (φ : Map) : φ.le φ := fun _ _ h => h
theorem Map.le_trans {φ ψ χ : Map} (h : φ.le ψ) (k : ψ.le χ) : φ.le χ := fun B x e => k B x (h B x e)

/-- Values without an address in them, on top. -/
def noAddr : Value → Bool
  | .bool _ | .int _ _ | .float _ _ | .complex _ _ _ | .string _ | .nilFunc | .nilIface => true
  | .pointer none | .map none | .chan none | .slice none _ _ => true
  | _ => false

/-- Symbols: values that are not known; what is known of them. -/
def scalar : Value → Bool
  | .bool _ | .int _ _ | .string _ => true
  | _ => false
def Sy (σ : Nat → Option Value) (v v' : Value) : Prop := (noAddr v = true ∧ v' = v) ∨ ∃ i, v = .chan (some i) ∧ σ i = some v'
class Sg where
  σ : Nat → Option Value
  sc : ∀ i v, σ i = some v → scalar v = true
  bin : Program → BinOp → TypeId → Value → Value → Option Value
  ok : ∀ (P : Program) (w : World) (op : BinOp) (t : TypeId) (x y : Operand) (a b v a' b' : Value), bin P op t a b = some v → Sy σ a a' → Sy σ b b' →
    ∃ v', (do eqGuard op t x y a' b'; binOp op t a' b' : Sem Value).run P w = .ok v' w ∧ Sy σ v v'
  eqs : Program → TypeId → Value → Value → Bool
  eqs_ok : ∀ (P : Program) (w : World) (d : Nat) (t : TypeId) (a b a' b' : Value), eqs P t a b = true → Sy σ a a' → Sy σ b b' → (Op.equalIn (d + 1) t a' b').run P w = .ok true w
variable [Sg]

inductive VR (φ : Map) : Value → Value → Prop where
  | flat {v : Value} : noAddr v = true → VR φ v v
  | sym {i : Nat} {v' : Value} : Sg.σ i = some v' → VR φ (.chan (some i)) v'
  | ptr {a : Addr} {x : At} : φ a.block = some x → a.spot = none → VR φ (.pointer (some a)) (.pointer (some ⟨x.b, a.off + x.d, none⟩))
  | slice {a : Addr} {x : At} {len cap cap' o : Nat} : φ a.block = some x → a.spot = none → len ≤ cap → cap ≤ cap' → (cap' = cap ∨ (x.grow = true ∧ a.off + x.d + cap' * x.es ≤ x.cs ∧ cap' < 2 ^ 63)) → (o = a.off + x.d ∨ cap' = 0) →
      VR φ (.slice (some a) len cap) (.slice (some ⟨x.b, o, none⟩) len cap')
  | map {r : Nat} {x : At} : φ r = some x → VR φ (.map (some r)) (.map (some x.b))
  | func {fn : Fn} {p c p' c' : Array Value} : (∀ l, fn ≠ .yield l) → p.size = p'.size → (∀ (i : Nat) (h : i < p.size) (h' : i < p'.size), VR φ p[i] p'[i]) →
      c.size = c'.size → (∀ (i : Nat) (h : i < c.size) (h' : i < c'.size), VR φ c[i] c'[i]) → VR φ (.func fn p c) (.func fn p' c')
  | iface {t : TypeId} {v v' : Value} : VR φ v v' → VR φ (.iface t v) (.iface t v')
  | agg {c c' : Array Value} : c.size = c'.size → (∀ (i : Nat) (h : i < c.size) (h' : i < c'.size), VR φ c[i] c'[i]) → VR φ (.agg c) (.agg c')
  | tuple {c c' : Array Value} : c.size = c'.size → (∀ (i : Nat) (h : i < c.size) (h' : i < c'.size), VR φ c[i] c'[i]) → VR φ (.tuple c) (.tuple c')

theorem VR.mono {φ ψ : Map} (h : φ.le ψ) {v v' : Value} (r : VR φ v v') : VR ψ v v' := by
  induction r with
  | flat hf => exact .flat hf
  | sym h1 => exact .sym h1
  | ptr h1 h2 => exact .ptr (h _ _ h1) h2
  | slice h1 h2 h3 h4 h5 h6 => exact .slice (h _ _ h1) h2 h3 h4 h5 h6
  | map h1 => exact .map (h _ _ h1)
  | func h1 h2 _ h4 _ ih1 ih2 => exact .func h1 h2 ih1 h4 ih2
  | iface _ ih => exact .iface ih
  | agg h1 _ ih => exact .agg h1 ih
  | tuple h1 _ ih => exact .tuple h1 ih

/-- Two lists, one by one. -/
inductive VRs (φ : Map) : List Value → List Value → Prop where
  | nil : VRs φ [] []
  | cons {v v' : Value} {l l' : List Value} : VR φ v v' → VRs φ l l' → VRs φ (v :: l) (v' :: l')
theorem VRs.mono {φ ψ : Map} (h : φ.le ψ) {l l' : List Value} (r : VRs φ l l') : VRs ψ l l' := by
  induction r with
  | nil => exact .nil
  | cons h1 _ ih => exact .cons (h1.mono h) ih
theorem VRs.length {φ : Map} {l l' : List Value} (r : VRs φ l l') : l.length = l'.length := by
  induction r with
  | nil => rfl
  | cons _ _ ih => simp [ih]
theorem VRs.get {φ : Map} {l l' : List Value} (r : VRs φ l l') : ∀ (i : Nat) (v : Value), l[i]? = some v → ∃ v', l'[i]? = some v' ∧ VR φ v v' := by
  induction r with
  | nil => intro i v h; simp at h
  | cons h1 _ ih =>
    intro i v h
    cases i with
    | zero => simp at h; subst h; exact ⟨_, by simp, h1⟩
    | succ i => simp at h; obtain ⟨v', h2, h3⟩ := ih i v h; exact ⟨v', by simpa using h2, h3⟩
theorem VRs.of_get {φ : Map} : ∀ (l l' : List Value), l.length = l'.length → (∀ (i : Nat) (v v' : Value), l[i]? = some v → l'[i]? = some v' → VR φ v v') → VRs φ l l' := by
  intro l
  induction l with
  | nil => intro l' h _; cases l' with | nil => exact .nil | cons => simp at h
  | cons v l ih =>
    intro l' h hg
    cases l' with
    | nil => simp at h
    | cons v' l' => exact .cons (hg 0 v v' (by simp) (by simp)) (ih l' (by simpa using h) fun i u u' h1 h2 => hg (i + 1) u u' (by simpa using h1) (by simpa using h2))
theorem VRs.append {φ : Map} {l l' m m' : List Value} (r : VRs φ l l') (s : VRs φ m m') : VRs φ (l ++ m) (l' ++ m') := by
  induction r with
  | nil => exact s
  | cons h _ ih => exact .cons h ih
theorem VRs.of_flat {φ : Map} {l : List Value} (h : l.all noAddr = true) : VRs φ l l := by
  induction l with
  | nil => exact .nil
  | cons v l ih => simp at h; exact .cons (.flat h.1) (ih (by simpa using h.2))
theorem VR.of_aggs {φ : Map} {c c' : Array Value} (h : VRs φ c.toList c'.toList) : VR φ (.agg c) (.agg c') := by
  refine .agg (by simpa using h.length) fun i h1 h2 => ?_
  obtain ⟨v', e, r⟩ := h.get i c[i] (by simp [h1])
  simp [h2] at e
  rw [e]; exact r
theorem VR.of_tuples {φ : Map} {c c' : Array Value} (h : VRs φ c.toList c'.toList) : VR φ (.tuple c) (.tuple c') := by
  refine .tuple (by simpa using h.length) fun i h1 h2 => ?_
  obtain ⟨v', e, r⟩ := h.get i c[i] (by simp [h1])
  simp [h2] at e
  rw [e]; exact r
theorem VRs.of_array {φ : Map} {c c' : Array Value} (h : c.size = c'.size) (g : ∀ (i : Nat) (h : i < c.size) (h' : i < c'.size), VR φ c[i] c'[i]) : VRs φ c.toList c'.toList := by
  refine VRs.of_get _ _ (by simpa using h) fun i v v' h1 h2 => ?_
  have k1 : i < c.size := by
    rcases Nat.lt_or_ge i c.size with h | h
    · exact h
    · simp [Array.getElem?_eq_none h] at h1
  have k2 : i < c'.size := by omega
  simp [k1] at h1
  simp [k2] at h2
  rw [← h1, ← h2]; exact g i k1 k2

/-- What one of two related values is, by the other's form. -/
theorem VR.agg_inv {φ : Map} {c : Array Value} {v' : Value} (h : VR φ (.agg c) v') : ∃ c', v' = .agg c' ∧ VRs φ c.toList c'.toList := by
  cases h with
  | flat h => simp [noAddr] at h
  | agg h g => exact ⟨_, rfl, VRs.of_array h g⟩
theorem VR.tuple_inv {φ : Map} {c : Array Value} {v' : Value} (h : VR φ (.tuple c) v') : ∃ c', v' = .tuple c' ∧ VRs φ c.toList c'.toList := by
  cases h with
  | flat h => simp [noAddr] at h
  | tuple h g => exact ⟨_, rfl, VRs.of_array h g⟩
theorem VR.iface_inv {φ : Map} {t : TypeId} {v v' : Value} (h : VR φ (.iface t v) v') : ∃ u, v' = .iface t u ∧ VR φ v u := by
  cases h with
  | flat h => simp [noAddr] at h
  | iface h => exact ⟨_, rfl, h⟩
theorem VR.flat_inv {φ : Map} {v v' : Value} (h : VR φ v v') (hf : noAddr v = true) : v' = v := by
  cases h <;> first | rfl | (simp [noAddr] at hf)
theorem VR.of_sy {φ : Map} {v v' : Value} (h : Sy Sg.σ v v') : VR φ v v' := by
  rcases h with ⟨h, rfl⟩ | ⟨i, rfl, h⟩
  · exact .flat h
  · exact .sym h
theorem VR.sy {φ : Map} {v v' : Value} (h : VR φ v v') (hs : noAddr v = true ∨ ∃ i, v = .chan (some i)) : Sy Sg.σ v v' := by
  rcases hs with hs | ⟨i, rfl⟩
  · exact .inl ⟨hs, h.flat_inv hs⟩
  · cases h with
    | flat h => simp [noAddr] at h
    | sym h => exact .inr ⟨i, rfl, h⟩
theorem VR.ptr_inv {φ : Map} {a : Addr} {v' : Value} (h : VR φ (.pointer (some a)) v') : ∃ x, φ a.block = some x ∧ a.spot = none ∧ v' = .pointer (some ⟨x.b, a.off + x.d, none⟩) := by
  cases h with
  | flat h => simp [noAddr] at h
  | ptr h1 h2 => exact ⟨_, h1, h2, rfl⟩
theorem VR.slice_inv {φ : Map} {a : Addr} {len cap : Nat} {v' : Value} (h : VR φ (.slice (some a) len cap) v') :
    ∃ x cap' o, φ a.block = some x ∧ a.spot = none ∧ len ≤ cap ∧ cap ≤ cap' ∧ (cap' = cap ∨ (x.grow = true ∧ a.off + x.d + cap' * x.es ≤ x.cs ∧ cap' < 2 ^ 63)) ∧ (o = a.off + x.d ∨ cap' = 0) ∧ v' = .slice (some ⟨x.b, o, none⟩) len cap' := by
  cases h with
  | flat h => simp [noAddr] at h
  | slice h1 h2 h3 h4 h5 h6 => exact ⟨_, _, _, h1, h2, h3, h4, h5, h6, rfl⟩
theorem VR.map_inv {φ : Map} {r : Nat} {v' : Value} (h : VR φ (.map (some r)) v') : ∃ x, φ r = some x ∧ v' = .map (some x.b) := by
  cases h with
  | flat h => simp [noAddr] at h
  | map h1 => exact ⟨_, h1, rfl⟩
theorem VR.func_inv {φ : Map} {fn : Fn} {p c : Array Value} {v' : Value} (h : VR φ (.func fn p c) v') :
    ∃ p' c', v' = .func fn p' c' ∧ VRs φ p.toList p'.toList ∧ VRs φ c.toList c'.toList := by
  cases h with
  | flat h => simp [noAddr] at h
  | func _ h1 h2 h3 h4 => exact ⟨_, _, rfl, VRs.of_array h1 h2, VRs.of_array h3 h4⟩
theorem VR.cells {φ : Map} {v v' : Value} (h : VR φ v v') : VRs φ v.cells.toList v'.cells.toList := by
  cases h with
  | flat h => cases v <;> first | (simp [noAddr] at h; done) | exact .cons (.flat h) .nil
  | sym h =>
    have := Sg.sc _ _ h
    cases v' <;> first | (simp [scalar] at this; done) | exact .cons (.sym h) .nil
  | agg h g => exact VRs.of_array h g
  | ptr h1 h2 => exact .cons (.ptr h1 h2) .nil
  | slice h1 h2 h3 h4 h5 h6 => exact .cons (.slice h1 h2 h3 h4 h5 h6) .nil
  | map h => exact .cons (.map h) .nil
  | func h0 h1 h2 h3 h4 => exact .cons (.func h0 h1 h2 h3 h4) .nil
  | iface h => exact .cons (.iface h) .nil
  | tuple h g => exact .cons (.tuple h g) .nil
theorem VR.oneCell {φ : Map} {v v' : Value} (h : VR φ v v') : v'.oneCell' = v.oneCell' := by
  cases h <;> first
    | rfl
    | (rename_i h
       have := Sg.sc _ _ h
       cases v' <;> first | (simp [scalar] at this; done) | rfl)

/-! ### Memory -/
inductive AObj where
  | cells (c : PT Value) (n : Nat) (elem : TypeId)
  | map (es : List MapEntry) (clock : Nat)
  | dead

structure AHeap where
  m : PT AObj
  next : Nat
  ro : Nat

/-- What a map's entries are, one by one. -/
inductive ERs (φ : Map) : List MapEntry → List MapEntry → Prop where
  | nil : ERs φ [] []
  | cons {x y : MapEntry} {l l' : List MapEntry} : VR φ x.key y.key → VR φ x.val y.val → x.born = y.born → ERs φ l l' → ERs φ (x :: l) (y :: l')
theorem ERs.mono {φ ψ : Map} (h : φ.le ψ) {l l' : List MapEntry} (r : ERs φ l l') : ERs ψ l l' := by
  induction r with
  | nil => exact .nil
  | cons h1 h2 h3 _ ih => exact .cons (h1.mono h) (h2.mono h) h3 ih

/-- What a block of the abstract memory says of the model's. -/
def ObjR (φ : Map) (x : At) (w : World) (own : Bool) : AObj → Prop
  | .dead => True
  | .map es clock => ∃ es' : Array MapEntry, w.heap[x.b]? = some (.map es' clock) ∧ ERs φ es es'.toList
  | .cells c n elem => ∃ (C : Array Value) (f : Nat × Nat) (E : TypeId), w.heap[x.b]? = some (.cells C E f) ∧ (own = true → f = (0, 0) ∧ E = elem) ∧ C.size = x.cs ∧ x.d + n ≤ x.cs ∧ ∀ i v, i < n → c.get i = some v → ∃ v', C[x.d + i]? = some v' ∧ VR φ v v'

def AObj.live : AObj → Bool
  | .dead => false
  | _ => true

/-- W: the world in which the law began; K: how many blocks stand for themselves; J: blocks of the model's that stand for nothing, and stay as they are. -/
structure Rel (P : Program) (W : World) (K : Nat) (J : Nat → Option Obj) (φ : Map) (h : AHeap) (w : World) : Prop where
  below : Below W.heap.size W w
  obj : ∀ B o, h.m.get B = some o → ∃ x, φ B = some x ∧ ObjR φ x w (decide (h.ro ≤ B)) o
  dom : ∀ B x, φ B = some x → B < h.next
  inj : ∀ B C x y o p, h.m.get B = some o → h.m.get C = some p → o.live = true → p.live = true → φ B = some x → φ C = some y → x.b = y.b → B = C
  old : ∀ B x, φ B = some x → h.ro ≤ B → W.heap.size ≤ x.b
  fix : ∀ B x, φ B = some x → B < h.ro → x.grow = false
  size : ∀ B x, φ B = some x → K ≤ B → x.b < w.heap.size
  self : ∀ B, B < K → ∃ cs es, φ B = some ⟨B, 0, es, cs, false⟩
  ro : h.ro ≤ h.next
  junk : ∀ b O, J b = some O → w.heap[b]? = some O ∧ ∀ B x, φ B = some x → x.b ≠ b
  es : ∀ B x c n E, φ B = some x → x.grow = true → h.m.get B = some (.cells c n E) → ∃ i, P.info? E = some i ∧ x.es = i.size

namespace AHeap
def cell? (h : AHeap) (a : Addr) : Option Value :=
  if a.spot.isSome then none else
  match h.m.get a.block with
  | some (.cells c n _) => if a.off < n then c.get a.off else none
  | _ => none
/-- k cells from an address on. -/
def row? (h : AHeap) (a : Addr) (k : Nat) : Option (List Value) :=
  if k = 0 then some [] else
  if a.spot.isSome then none else
  match h.m.get a.block with
  | some (.cells c n _) => if a.off + k ≤ n then c.row a.off k else none
  | _ => none
def store (h : AHeap) (a : Addr) (l : List Value) : Option AHeap :=
  if l.isEmpty then some h else
  if a.spot.isSome then none else
  match h.m.get a.block with
  | some (.cells c n e) => if h.ro ≤ a.block ∧ a.off + l.length ≤ n ∧ l.all Value.oneCell' = true then some { h with m := h.m.set a.block (.cells (c.put a.off l) n e) } else none
  | _ => none
def new (h : AHeap) (o : AObj) : AHeap := { h with m := h.m.set h.next o, next := h.next + 1 }
end AHeap

section
variable {P : Program} {W : World} {K : Nat} {J : Nat → Option Obj} {φ : Map} {h : AHeap} {w : World}

theorem Rel.congr (R : Rel P W K J φ h w) {h' : AHeap} (hm : ∀ B, h'.m.get B = h.m.get B) (hn : h'.next = h.next) (hr : h'.ro = h.ro) : Rel P W K J φ h' w :=
  ⟨R.below, fun B o e => by rw [hr]; exact R.obj B o (by rw [← hm]; exact e), fun B x e => by rw [hn]; exact R.dom B x e,
   fun B C x y o p e1 e2 => R.inj B C x y o p (by rw [← hm]; exact e1) (by rw [← hm]; exact e2),
   fun B x e1 e2 => R.old B x e1 (by rw [← hr]; exact e2), fun B x e1 e2 => R.fix B x e1 (by rw [← hr]; exact e2), R.size, R.self, by rw [hn, hr]; exact R.ro, R.junk,
   fun B x c n E e1 e2 e3 => R.es B x c n E e1 e2 (by rw [← hm]; exact e3)⟩

theorem Rel.drew (R : Rel P W K J φ h w) : Rel P W K J φ h w.drew :=
  ⟨R.below.drew, R.obj, R.dom, R.inj, R.old, R.fix, R.size, R.self, R.ro, R.junk, R.es⟩

theorem Rel.live_lt (R : Rel P W K J φ h w) {B : Nat} {o : AObj} {x : At} (hB : h.m.get B = some o) (hl : o.live = true) (hx : φ B = some x) : x.b < w.heap.size := by
  obtain ⟨y, hy, hobj⟩ := R.obj B o hB
  rw [hx] at hy; cases hy
  have key : ∀ O : Obj, w.heap[x.b]? = some O → x.b < w.heap.size := by
    intro O hO
    rcases Nat.lt_or_ge x.b w.heap.size with h | h
    · exact h
    · rw [Array.getElem?_eq_none h] at hO; cases hO
  cases o with
  | dead => cases hl
  | map es clock => obtain ⟨_, h1, _⟩ := hobj; exact key _ h1
  | cells c n e => obtain ⟨_, _, _, h1, _⟩ := hobj; exact key _ h1

/-- Where a live block lies. -/
theorem Rel.cells (R : Rel P W K J φ h w) {B n : Nat} {c : PT Value} {e : TypeId} (hB : h.m.get B = some (.cells c n e)) :
    ∃ x C f E, φ B = some x ∧ w.heap[x.b]? = some (.cells C E f) ∧ (h.ro ≤ B → f = (0, 0) ∧ E = e) ∧ C.size = x.cs ∧ x.d + n ≤ x.cs ∧ ∀ i v, i < n → c.get i = some v → ∃ v', C[x.d + i]? = some v' ∧ VR φ v v' := by
  obtain ⟨x, hx, C, f, E, h1, h0, h2, h3, h4⟩ := R.obj B _ hB
  exact ⟨x, C, f, E, hx, h1, fun h => h0 (by simpa using h), h2, h3, h4⟩

theorem cell_of {w : World} {b : Nat} {C : Array Value} {e : TypeId} {f : Nat × Nat} (h : w.heap[b]? = some (.cells C e f)) (i : Nat) : w.cell? ⟨b, i, none⟩ = C[i]? := by
  simp [World.cell?, h]

theorem Rel.cell (R : Rel P W K J φ h w) {a : Addr} {v : Value} {x : At} (ha : h.cell? a = some v) (hx : φ a.block = some x) :
    a.spot = none ∧ ∃ v', w.cell? ⟨x.b, a.off + x.d, none⟩ = some v' ∧ VR φ v v' := by
  unfold AHeap.cell? at ha
  split at ha
  · cases ha
  · rename_i hs
    have hs' : a.spot = none := by cases hh : a.spot <;> simp_all
    split at ha
    · rename_i c n e hB
      split at ha
      · rename_i hlt
        obtain ⟨y, C, f, E, hy, h1, _, h2, h3, h4⟩ := R.cells hB
        rw [hx] at hy; cases hy
        obtain ⟨v', h5, h6⟩ := h4 _ _ hlt ha
        exact ⟨hs', v', by rw [cell_of h1, Nat.add_comm]; exact h5, h6⟩
      · cases ha
    · cases ha

theorem addr_add (b o k : Nat) : (⟨b, o, none⟩ : Addr).add k = ⟨b, o + k, none⟩ := by
  unfold Addr.add
  split
  · rename_i h; subst h; rfl
  · rfl

theorem loadCellsFrom_run (P : Program) (w : World) (b o : Nat) : ∀ (k i : Nat) (acc : Array Value) (l : List Value), l.length = k → (∀ j, j < k → w.cell? ⟨b, o + i + j, none⟩ = l[j]?) →
    (loadCellsFrom ⟨b, o, none⟩ i k acc).run P w = .ok (acc ++ l.toArray) w := by
  intro k
  induction k with
  | zero => intro i acc l h _; rw [List.length_eq_zero_iff.1 h]; simp [loadCellsFrom]
  | succ k ih =>
    intro i acc l h hg
    cases l with
    | nil => simp at h
    | cons v l =>
      have h0 := hg 0 (by omega)
      simp at h0
      simp only [loadCellsFrom, addr_add, Sem.run_bind, run_load, h0, Result.andThen_ok]
      rw [ih (i + 1) (acc.push v) l (by simpa using h) (fun j hj => by
        have := hg (j + 1) (by omega)
        rw [List.getElem?_cons_succ] at this
        rw [← this, show o + (i + 1) + j = o + i + (j + 1) by omega])]
      simp

theorem loadCells_run (P : Program) (w : World) (b o k : Nat) (l : List Value) (h : l.length = k) (hg : ∀ j, j < k → w.cell? ⟨b, o + j, none⟩ = l[j]?) :
    (loadCells ⟨b, o, none⟩ k).run P w = .ok l.toArray w := by
  unfold loadCells
  rw [loadCellsFrom_run P w b o k 0 #[] l h (by simpa using hg)]
  simp

/-- A row of cells, read. -/
theorem Rel.row (R : Rel P W K J φ h w) {a : Addr} {k : Nat} {l : List Value} {x : At} (ha : h.row? a k = some l) (hx : φ a.block = some x) :
    ∃ l', (loadCells ⟨x.b, a.off + x.d, none⟩ k).run P w = .ok l'.toArray w ∧ VRs φ l l' ∧ l.length = k := by
  unfold AHeap.row? at ha
  split at ha
  · rename_i h0
    subst h0
    cases ha
    exact ⟨[], by rw [loadCells_run P w _ _ 0 [] rfl (fun j hj => by omega)], .nil, rfl⟩
  · split at ha
    · cases ha
    · split at ha
      · rename_i c n e hB
        split at ha
        · rename_i hle
          obtain ⟨y, C, f, E, hy, h1, _, h2, h3, h4⟩ := R.cells hB
          rw [hx] at hy; cases hy
          obtain ⟨hl, hg⟩ := PT.row_spec _ _ _ _ ha
          have key : ∀ j, j < k → ∃ v v', l[j]? = some v ∧ C[x.d + (a.off + j)]? = some v' ∧ VR φ v v' := by
            intro j hj
            obtain ⟨v, hv⟩ : ∃ v, l[j]? = some v := ⟨l[j]'(by omega), by simp [show j < l.length by omega]⟩
            have := hg j hj
            rw [hv] at this
            obtain ⟨v', h5, h6⟩ := h4 (a.off + j) v (by omega) this
            exact ⟨v, v', hv, h5, h6⟩
          refine ⟨(List.range k).map fun j => (C[x.d + (a.off + j)]?).getD undef, ?_, ?_, hl⟩
          · refine loadCells_run P w _ _ k _ (by simp) fun j hj => ?_
            obtain ⟨v, v', _, h5, _⟩ := key j hj
            rw [cell_of h1, show a.off + x.d + j = x.d + (a.off + j) by omega]
            simp [hj, h5]
          · refine VRs.of_get _ _ (by simp [hl]) fun i v v' e1 e2 => ?_
            have hi : i < k := by
              rcases Nat.lt_or_ge i k with hi | hi
              · exact hi
              · rw [List.getElem?_eq_none (by omega)] at e1; cases e1
            obtain ⟨u, u', g1, g2, g3⟩ := key i hi
            simp [hi, g2] at e2
            rw [g1] at e1; cases e1; subst e2; exact g3
        · cases ha
      · cases ha

omit [Sg] in
theorem getElem?_lt {α : Type} {C : Array α} {i : Nat} {v : α} (h : C[i]? = some v) : i < C.size := by
  rcases Nat.lt_or_ge i C.size with h' | h'
  · exact h'
  · rw [Array.getElem?_eq_none h'] at h; cases h

/-- One cell, written. -/
theorem Rel.set (R : Rel P W K J φ h w) {B n i : Nat} {c : PT Value} {e : TypeId} {x : At} {v v' : Value} (hB : h.m.get B = some (.cells c n e)) (hro : h.ro ≤ B) (hi : i < n)
    (hx : φ B = some x) (hv : VR φ v v') (h1 : v'.oneCell' = true) :
    (Go.store ⟨x.b, i + x.d, none⟩ v').run P w = .ok () (w.setCell ⟨x.b, i + x.d, none⟩ v') ∧
    Rel P W K J φ { h with m := h.m.set B (.cells (c.set i v) n e) } (w.setCell ⟨x.b, i + x.d, none⟩ v') := by
  obtain ⟨y, C, f, E, hy, g1, g0, g2, g3, g4⟩ := R.cells hB
  obtain ⟨rfl, hE0⟩ := g0 hro
  rw [hE0] at g1
  clear g0 hE0
  rw [hx] at hy; cases hy
  have hlt : i + x.d < C.size := by omega
  have hcell : w.cell? ⟨x.b, i + x.d, none⟩ = some (C[i + x.d]) := by rw [cell_of g1]; simp [hlt]
  have hfr : w.frozen? ⟨x.b, i + x.d, none⟩ = false := by simp [World.frozen?, g1]
  have hheap : ∀ k, (w.setCell ⟨x.b, i + x.d, none⟩ v').heap[k]? = if k = x.b then some (.cells (C.setIfInBounds (i + x.d) v') e (0, 0)) else w.heap[k]? := by
    intro k
    simp only [World.setCell, Array.getElem?_modify]
    by_cases hk : x.b = k
    · subst hk; simp [g1]
    · rw [if_neg hk, if_neg (fun h => hk h.symm)]
  refine ⟨by rw [run_store P w _ _ _ h1, hcell, hfr]; rfl, ?_⟩
  refine ⟨R.below.setCell (R.old B x hx hro) v', ?_, R.dom, ?_, R.old, R.fix, fun B x e k => by rw [World.size_setCell]; exact R.size B x e k, R.self, R.ro,
    fun b O hb => ⟨by rw [hheap, if_neg (fun e => (R.junk b O hb).2 B x hx e.symm)]; exact (R.junk b O hb).1, (R.junk b O hb).2⟩,
    fun D y c' n' E e1 e2 e3 => by
      rw [PT.get_set] at e3
      split at e3
      · rename_i hBD; subst hBD; cases e3; exact R.es B y c n e e1 e2 hB
      · exact R.es D y c' n' E e1 e2 e3⟩
  · intro D o hD
    rw [PT.get_set] at hD
    by_cases hBD : B = D
    · subst hBD
      rw [if_pos rfl] at hD; cases hD
      refine ⟨x, hx, C.setIfInBounds (i + x.d) v', (0, 0), _, by rw [hheap, if_pos rfl], fun _ => ⟨rfl, rfl⟩, by simpa using g2, g3, fun j u hj hu => ?_⟩
      rw [PT.get_set] at hu
      by_cases hij : i = j
      · subst hij
        rw [if_pos rfl] at hu; cases hu
        exact ⟨v', by rw [show x.d + i = i + x.d by omega]; simp [hlt], hv⟩
      · rw [if_neg hij] at hu
        obtain ⟨u', h5, h6⟩ := g4 j u hj hu
        exact ⟨u', by rw [Array.getElem?_setIfInBounds_ne (by omega)]; exact h5, h6⟩
    · rw [if_neg hBD] at hD
      obtain ⟨y, hy, hobj⟩ := R.obj D o hD
      refine ⟨y, hy, ?_⟩
      cases o with
      | dead => trivial
      | map es clock =>
        have hne : y.b ≠ x.b := fun e => hBD (R.inj B D x y _ _ hB hD rfl rfl hx hy e.symm)
        obtain ⟨es', k1, k2⟩ := hobj
        exact ⟨es', by rw [hheap, if_neg hne]; exact k1, k2⟩
      | cells c' n' e' =>
        have hne : y.b ≠ x.b := fun e => hBD (R.inj B D x y _ _ hB hD rfl rfl hx hy e.symm)
        obtain ⟨C', f', E', k1, k2⟩ := hobj
        exact ⟨C', f', E', by rw [hheap, if_neg hne]; exact k1, k2⟩
  · intro D E y z o p hD hE l1 l2 e1 e2 e3
    rw [PT.get_set] at hD hE
    by_cases hBD : B = D
    · by_cases hBE : B = E
      · rw [← hBD, ← hBE]
      · rw [if_neg hBE] at hE
        rw [hBD] at hB
        exact R.inj D E y z _ p hB hE rfl l2 e1 e2 e3
    · rw [if_neg hBD] at hD
      by_cases hBE : B = E
      · rw [hBE] at hB
        exact R.inj D E y z o _ hD hB l1 rfl e1 e2 e3
      · rw [if_neg hBE] at hE
        exact R.inj D E y z o p hD hE l1 l2 e1 e2 e3

theorem storeCells_run (P : Program) {W : World} {K : Nat} {J : Nat → Option Obj} {φ : Map} {B n : Nat} {e : TypeId} {x : At} (hx : φ B = some x) {l l' : List Value} (hl : VRs φ l l') :
    ∀ (h : AHeap) (w : World) (c : PT Value) (o k : Nat), Rel P W K J φ h w → h.m.get B = some (.cells c n e) → h.ro ≤ B → o + k + l.length ≤ n → l.all Value.oneCell' = true →
    ∃ w', (storeCells ⟨x.b, o + x.d, none⟩ l' k).run P w = .ok () w' ∧ Rel P W K J φ { h with m := h.m.set B (.cells (c.put (o + k) l) n e) } w' := by
  induction hl with
  | nil =>
    intro h w c o k R hB hro hle hone
    refine ⟨w, rfl, R.congr (fun D => ?_) rfl rfl⟩
    rw [PT.get_set]
    split
    · rename_i hD; subst hD; exact hB.symm
    · rfl
  | @cons v v' l l' hv _ ih =>
    intro h w c o k R hB hro hle hone
    simp only [List.all_cons, Bool.and_eq_true] at hone
    simp only [List.length_cons] at hle
    have h1 : v'.oneCell' = true := by rw [hv.oneCell]; exact hone.1
    obtain ⟨hrun, R'⟩ := R.set (i := o + k) hB hro (by omega) hx hv h1
    obtain ⟨w', hrun', R''⟩ := ih _ _ (c.set (o + k) v) o (k + 1) R' (by simp) hro (by omega) hone.2
    refine ⟨w', ?_, R''.congr (fun D => ?_) rfl rfl⟩
    · simp only [storeCells, addr_add, Sem.run_bind]
      rw [show o + x.d + k = o + k + x.d by omega, hrun]
      exact hrun'
    · simp only [PT.put, PT.get_set]
      split <;> rfl

/-- A row of cells, written. -/
theorem Rel.store (R : Rel P W K J φ h w) {a : Addr} {l l' : List Value} {x : At} {h' : AHeap} (ha : h.store a l = some h') (hx : φ a.block = some x) (hl : VRs φ l l') :
    ∃ w', (storeCells ⟨x.b, a.off + x.d, none⟩ l').run P w = .ok () w' ∧ Rel P W K J φ h' w' := by
  unfold AHeap.store at ha
  split at ha
  · rename_i h0
    cases ha
    have : l = [] := by simpa using h0
    subst this
    cases hl
    exact ⟨w, rfl, R⟩
  · split at ha
    · cases ha
    · split at ha
      · rename_i c n e hB
        split at ha
        · rename_i hc
          cases ha
          exact storeCells_run P hx hl h w c a.off 0 R hB hc.1 (by omega) hc.2.2
        · cases ha
      · cases ha

/-- A new block. -/
theorem Rel.new (R : Rel P W K J φ h w) {o : AObj} {O : Obj} {x : At} (hb' : x.b = w.heap.size) (hx : x.grow = true → ∀ c n E, o = .cells c n E → ∃ i, P.info? E = some i ∧ x.es = i.size)
    (ho : ∀ ψ w', φ.le ψ → w'.heap[w.heap.size]? = some O → ObjR ψ x w' true o) :
    ∃ ψ, φ.le ψ ∧ ψ h.next = some x ∧ Rel P W K J ψ (h.new o) (w.alloc O) := by
  let ψ : Map := fun B => if B = h.next then some x else φ B
  have hle : φ.le ψ := fun B y e => by
    have := R.dom B y e
    show (if B = h.next then some x else φ B) = some y
    rw [if_neg (by omega)]; exact e
  have hnew : (w.alloc O).heap[w.heap.size]? = some O := by
    show (w.heap.push O)[w.heap.size]? = some O
    simp
  have hinv : ∀ B y, ψ B = some y → (B = h.next ∧ y = x) ∨ (B ≠ h.next ∧ φ B = some y) := by
    intro B y e
    have e : (if B = h.next then some x else φ B) = some y := e
    split at e
    · rename_i hB; cases e; exact .inl ⟨hB, rfl⟩
    · rename_i hB; exact .inr ⟨hB, e⟩
  have hself : ψ h.next = some x := if_pos rfl
  refine ⟨ψ, hle, hself, ?_⟩
  refine ⟨R.below.alloc R.below.size O, ?_, ?_, ?_, ?_, ?_, ?_, ?_, ?_, ?_, ?_⟩
  · intro B p hB
    simp only [AHeap.new, PT.get_set] at hB
    split at hB
    · rename_i hn
      cases hB
      subst hn
      refine ⟨x, hself, ?_⟩
      have hro : decide ((h.new o).ro ≤ h.next) = true := decide_eq_true R.ro
      rw [hro]
      exact ho ψ _ hle hnew
    · obtain ⟨y, hy, hobj⟩ := R.obj B p hB
      refine ⟨y, hle _ _ hy, ?_⟩
      have hold : p.live = true → (w.alloc O).heap[y.b]? = w.heap[y.b]? := by
        intro hl
        have hlt := R.live_lt hB hl hy
        show (w.heap.push O)[y.b]? = _
        rw [Array.getElem?_push, if_neg (by omega)]
      cases p with
      | dead => trivial
      | map es clock =>
        have hold := hold rfl
        obtain ⟨es', k1, k2⟩ := hobj
        exact ⟨es', by rw [hold]; exact k1, k2.mono hle⟩
      | cells c n e =>
        have hold := hold rfl
        obtain ⟨C, f, E, k1, k0, k2, k3, k4⟩ := hobj
        exact ⟨C, f, E, by rw [hold]; exact k1, k0, k2, k3, fun i v hi hv => by obtain ⟨v', h5, h6⟩ := k4 i v hi hv; exact ⟨v', h5, h6.mono hle⟩⟩
  · intro B y e
    show B < h.next + 1
    rcases hinv B y e with ⟨h1, _⟩ | ⟨_, h1⟩
    · omega
    · have := R.dom B y h1; omega
  · intro B C y z p q hB hC l1 l2 e1 e2 e3
    simp only [AHeap.new, PT.get_set] at hB hC
    rcases hinv B y e1 with ⟨h1, h2⟩ | ⟨h1, h2⟩ <;> rcases hinv C z e2 with ⟨h3, h4⟩ | ⟨h3, h4⟩
    · rw [h1, h3]
    · rw [if_neg (fun e => h3 e.symm)] at hC; have := R.live_lt hC l2 h4; rw [h2, hb'] at e3; omega
    · rw [if_neg (fun e => h1 e.symm)] at hB; have := R.live_lt hB l1 h2; rw [h4, hb'] at e3; omega
    · rw [if_neg (fun e => h1 e.symm)] at hB
      rw [if_neg (fun e => h3 e.symm)] at hC
      exact R.inj B C y z p q hB hC l1 l2 h2 h4 e3
  · intro B y e1 e2
    rcases hinv B y e1 with ⟨h1, h2⟩ | ⟨h1, h2⟩
    · rw [h2, hb']; exact R.below.size
    · exact R.old B y h2 e2
  · intro B y e1 e2
    rcases hinv B y e1 with ⟨h1, h2⟩ | ⟨h1, h2⟩
    · have := R.ro
      have e2 : B < h.ro := e2
      omega
    · exact R.fix B y h2 e2
  · intro B y e hk
    rw [World.size_alloc]
    rcases hinv B y e with ⟨h1, h2⟩ | ⟨h1, h2⟩
    · rw [h2, hb']; omega
    · have := R.size B y h2 hk; omega
  · intro B hB
    obtain ⟨cs, es, e⟩ := R.self B hB
    exact ⟨cs, es, hle _ _ e⟩
  · show h.ro ≤ h.next + 1
    have := R.ro; omega
  · intro b O' hb
    obtain ⟨j1, j2⟩ := R.junk b O' hb
    have hlt : b < w.heap.size := getElem?_lt j1
    refine ⟨?_, fun B y e => ?_⟩
    · show (w.heap.push O)[b]? = _
      rw [Array.getElem?_push, if_neg (by omega)]; exact j1
    · rcases hinv B y e with ⟨h1, h2⟩ | ⟨h1, h2⟩
      · rw [h2, hb']; omega
      · exact j2 B y h2
  · intro B y c n E e1 e2 e3
    simp only [AHeap.new, PT.get_set] at e3
    rcases hinv B y e1 with ⟨h1, h2⟩ | ⟨h1, h2⟩
    · rw [if_pos h1.symm] at e3; cases e3; subst h2; exact hx e2 _ _ _ rfl
    · rw [if_neg (fun e => h1 e.symm)] at e3; exact R.es B y c n E h2 e2 e3

/-- A new row of cells. -/
theorem Rel.newRow (R : Rel P W K J φ h w) {l l' : List Value} (hl : VRs φ l l') (e : TypeId) (es : Nat) (rest : Array Value) (g : Bool) (hg : g = true → ∃ i, P.info? e = some i ∧ es = i.size) :
    ∃ ψ, φ.le ψ ∧ ψ h.next = some ⟨w.heap.size, 0, es, l.length + rest.size, g⟩ ∧ (Go.newRow e (l'.toArray ++ rest)).run P w = .ok ⟨w.heap.size, 0, none⟩ (w.alloc (.cells (l'.toArray ++ rest) e)) ∧
      Rel P W K J ψ (h.new (.cells (PT.ofList l) l.length e)) (w.alloc (.cells (l'.toArray ++ rest) e)) := by
  obtain ⟨ψ, h1, h2, h3⟩ := R.new (o := .cells (PT.ofList l) l.length e) (O := .cells (l'.toArray ++ rest) e) (x := ⟨w.heap.size, 0, es, l.length + rest.size, g⟩) rfl (fun hgt c n E hc => by cases hc; exact hg hgt) (by
    intro ψ w' hle hw
    refine ⟨l'.toArray ++ rest, (0, 0), _, hw, fun _ => ⟨rfl, rfl⟩, by simp [hl.length], by simp, fun i v hi hv => ?_⟩
    rw [PT.get_ofList] at hv
    obtain ⟨v', h5, h6⟩ := hl.get i v hv
    have hi' : i < l'.length := by rw [← hl.length]; exact hi
    refine ⟨v', ?_, h6.mono hle⟩
    rw [Nat.zero_add, Array.getElem?_append_left (by simpa using hi')]
    simpa using h5)
  exact ⟨ψ, h1, h2, by simp [Go.newRow], h3⟩
end
end Go.Ab
