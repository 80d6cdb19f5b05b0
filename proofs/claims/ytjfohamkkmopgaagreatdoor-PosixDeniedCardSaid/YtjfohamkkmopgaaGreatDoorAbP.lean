/- Trees that map numbers to things; the abstract memory; when a value, and a memory, of the abstract evaluator stands for one of the model's. The abstract evaluator's operations, and that the model's do what they tell. The abstract evaluator's operations on structs, slices, strings and memory, and that the model's do what they tell. The abstract evaluator's operations on places, slices, maps and whatever is told by its type; and that the model's do what they tell. The abstract evaluator: cutting slices, making them, append, copy; and that the model's do what they tell. The abstract evaluator: make, append, copy; and that the model's do what they tell, whatever room a new row gets. -/
import Derived.Calls
import Derived.Below
import Derived.Laws.Sem
import Derived.Laws.World
import Derived.Laws.Slices
namespace Go.Ab
open Go.RowKit
set_option linter.unusedVariables false
set_option linter.unusedSectionVars false
set_option linter.unusedSimpArgs false

/-! ### Trees -/
inductive PT (α : Type) where
  | nil
  | node (v : Option α) (l r : PT α)

namespace PT
variable {α : Type}
def get : PT α → Nat → Option α
  | .nil, _ => none
  | .node v l r, i => cond (Nat.beq i 0) v (cond (Nat.beq (Nat.mod i 2) 1) (l.get (Nat.div i 2)) (r.get (Nat.sub (Nat.div i 2) 1)))

def setF : Nat → PT α → Nat → α → PT α
  | 0, t, _, _ => t
  | k + 1, .nil, i, a => cond (Nat.beq i 0) (.node (some a) .nil .nil) (cond (Nat.beq (Nat.mod i 2) 1) (.node none (setF k .nil (Nat.div i 2) a) .nil) (.node none .nil (setF k .nil (Nat.sub (Nat.div i 2) 1) a)))
  | k + 1, .node v l r, i, a => cond (Nat.beq i 0) (.node (some a) l r) (cond (Nat.beq (Nat.mod i 2) 1) (.node v (setF k l (Nat.div i 2) a) r) (.node v l (setF k r (Nat.sub (Nat.div i 2) 1) a)))
theorem cond_beq {β : Type} (i j : Nat) (x y : β) : cond (Nat.beq i j) x y = if i = j then x else y := by
  by_cases h : i = j
  · subst h; simp
  · have h2 : Nat.beq i j = false := by
      rw [Bool.eq_false_iff]
      exact fun e => h (Nat.eq_of_beq_eq_true e)
    rw [if_neg h, h2]; rfl
theorem get_node (v : Option α) (l r : PT α) (i : Nat) : (PT.node v l r).get i = if i = 0 then v else if i % 2 = 1 then l.get (i / 2) else r.get (i / 2 - 1) := by
  simp only [get, cond_beq]; rfl
theorem setF_nil (k i : Nat) (a : α) : setF (k + 1) .nil i a = if i = 0 then .node (some a) .nil .nil else if i % 2 = 1 then .node none (setF k .nil (i / 2) a) .nil else .node none .nil (setF k .nil (i / 2 - 1) a) := by
  simp only [setF, cond_beq]; rfl
theorem setF_node (k i : Nat) (a : α) (v : Option α) (l r : PT α) : setF (k + 1) (.node v l r) i a = if i = 0 then .node (some a) l r else if i % 2 = 1 then .node v (setF k l (i / 2) a) r else .node v l (setF k r (i / 2 - 1) a) := by
  simp only [setF, cond_beq]; rfl

def set (t : PT α) (i : Nat) (a : α) : PT α := setF (i + 1) t i a

@[simp] theorem get_nil (i : Nat) : (PT.nil : PT α).get i = none := rfl

theorem get_setF_eq : ∀ (k : Nat) (t : PT α) (i : Nat) (a : α), i < k → (setF k t i a).get i = some a := by
  intro k
  induction k with
  | zero => intro t i a h; omega
  | succ k ih =>
    intro t i a h
    cases t with
    | nil =>
      simp only [setF_nil, setF_node]
      split
      · simp [get_node, *]
      · rename_i h0
        split
        · rename_i h1
          simp only [get_node, h0, h1, if_true, if_false]
          exact ih _ _ _ (by omega)
        · rename_i h1
          simp only [get_node, h0, h1, if_false]
          exact ih _ _ _ (by omega)
    | node v l r =>
      simp only [setF_nil, setF_node]
      split
      · simp [get_node, *]
      · rename_i h0
        split
        · rename_i h1
          simp only [get_node, h0, h1, if_true, if_false]
          exact ih _ _ _ (by omega)
        · rename_i h1
          simp only [get_node, h0, h1, if_false]
          exact ih _ _ _ (by omega)

theorem get_setF_ne : ∀ (k : Nat) (t : PT α) (i j : Nat) (a : α), i ≠ j → (setF k t i a).get j = t.get j := by
  intro k
  induction k with
  | zero => intro t i j a h; rfl
  | succ k ih =>
    intro t i j a h
    cases t with
    | nil =>
      simp only [setF_nil, setF_node]
      split
      · rename_i h0
        subst h0
        simp only [get_node, get_nil]
        rw [if_neg (fun e => h e.symm)]
        split <;> rfl
      · rename_i h0
        split
        · rename_i h1
          simp only [get_node, get_nil]
          split
          · rfl
          · split
            · rw [ih _ _ _ _ (by omega)]; rfl
            · rfl
        · rename_i h1
          simp only [get_node, get_nil]
          split
          · rfl
          · split
            · rfl
            · rw [ih _ _ _ _ (by omega)]; rfl
    | node v l r =>
      simp only [setF_nil, setF_node]
      split
      · rename_i h0
        subst h0
        simp only [get_node, get_nil]
        rw [if_neg (c := j = 0) (fun e => h e.symm)]
        rw [if_neg (c := j = 0) (fun e => h e.symm)]
      · rename_i h0
        split
        · rename_i h1
          simp only [get_node, get_nil]
          split
          · rfl
          · split
            · rw [ih _ _ _ _ (by omega)]
            · rfl
        · rename_i h1
          simp only [get_node, get_nil]
          split
          · rfl
          · split
            · rfl
            · rw [ih _ _ _ _ (by omega)]

@[simp] theorem get_set_eq (t : PT α) (i : Nat) (a : α) : (t.set i a).get i = some a := get_setF_eq _ _ _ _ (Nat.lt_succ_self i)
theorem get_set_ne (t : PT α) {i j : Nat} (a : α) (h : i ≠ j) : (t.set i a).get j = t.get j := get_setF_ne _ _ _ _ _ h
theorem get_set (t : PT α) (i j : Nat) (a : α) : (t.set i a).get j = if i = j then some a else t.get j := by
  by_cases h : i = j
  · subst h; simp
  · rw [get_set_ne _ _ h, if_neg h]

/-- A row of things from a place on. -/
def put (t : PT α) (i : Nat) : List α → PT α
  | [] => t
  | a :: l => (t.set i a).put (i + 1) l

theorem get_put : ∀ (l : List α) (t : PT α) (i j : Nat), (t.put i l).get j = if i ≤ j ∧ j < i + l.length then l[j - i]? else t.get j := by
  intro l
  induction l with
  | nil => intro t i j; simp only [put, List.length_nil]; rw [if_neg (by omega)]
  | cons a l ih =>
    intro t i j
    simp only [put, ih, List.length_cons]
    by_cases h : i + 1 ≤ j ∧ j < i + 1 + l.length
    · rw [if_pos h, if_pos (by omega)]
      obtain ⟨k, hk⟩ : ∃ k, j - i = k + 1 := ⟨j - i - 1, by omega⟩
      rw [hk, show j - (i + 1) = k from by omega, List.getElem?_cons_succ]
    · rw [if_neg h, get_set]
      by_cases e : i = j
      · subst e; rw [if_pos rfl, if_pos (by omega)]; simp
      · rw [if_neg e, if_neg (by omega)]

def ofList (l : List α) : PT α := PT.nil.put 0 l
theorem get_ofList (l : List α) (j : Nat) : (ofList l).get j = l[j]? := by
  unfold ofList
  rw [get_put]
  by_cases h : 0 ≤ j ∧ j < 0 + l.length
  · rw [if_pos h]; simp
  · rw [if_neg h, get_nil, List.getElem?_eq_none (by omega)]

/-- n things from a place on. -/
def row (t : PT α) (i : Nat) : Nat → Option (List α)
  | 0 => some []
  | n + 1 => match t.get i with
    | some a => match t.row (i + 1) n with
      | some l => some (a :: l)
      | none => none
    | none => none

theorem row_spec : ∀ (n : Nat) (t : PT α) (i : Nat) (l : List α), t.row i n = some l → l.length = n ∧ ∀ j, j < n → t.get (i + j) = l[j]? := by
  intro n
  induction n with
  | zero => intro t i l h; simp only [row, Option.some.injEq] at h; subst h; exact ⟨rfl, fun j hj => by omega⟩
  | succ n ih =>
    intro t i l h
    simp only [row] at h
    split at h
    · rename_i a ha
      split at h
      · rename_i l' hl
        simp only [Option.some.injEq] at h
        subst h
        obtain ⟨h1, h2⟩ := ih _ _ _ hl
        refine ⟨by simp [h1], fun j hj => ?_⟩
        cases j with
        | zero => simpa using ha
        | succ j =>
          rw [List.getElem?_cons_succ, ← h2 j (by omega), show i + 1 + j = i + (j + 1) by omega]
      · cases h
    · cases h
theorem row_of : ∀ (n : Nat) (t : PT α) (i : Nat) (l : List α), l.length = n → (∀ j, j < n → t.get (i + j) = l[j]?) → t.row i n = some l := by
  intro n
  induction n with
  | zero => intro t i l h _; rw [List.length_eq_zero_iff.1 h]; rfl
  | succ n ih =>
    intro t i l h hg
    cases l with
    | nil => simp at h
    | cons a l =>
      have h0 := hg 0 (by omega)
      simp at h0
      have hr := ih t (i + 1) l (by simpa using h) (fun j hj => by
        have := hg (j + 1) (by omega)
        rw [List.getElem?_cons_succ] at this
        rw [← this, show i + 1 + j = i + (j + 1) by omega])
      simp only [row, h0, hr]
end PT

/-! ### Values -/
/-- Where a block of the abstract memory lies: in which block, from which cell on; the size of its elements; how many cells that block has; whether slices of it may have more room than it seems. -/
structure At where
  b : Nat
  d : Nat
  es : Nat
  cs : Nat
  grow : Bool
abbrev Map := Nat → Option At
def Map.le (φ ψ : Map) : Prop := ∀ B x, φ B = some x → ψ B = some x
theorem Map.le_refl (φ : Map) : φ.le φ := fun _ _ h => h
theorem Map.le_trans {φ ψ χ : Map} (h : φ.le ψ) (k : ψ.le χ) : φ.le χ := fun B x e => k B x (h B x e)

/-- Values without an address in them, on top. -/
def noAddr : Value → Bool
  | .bool _ | .int _ _ | .float _ _ | .complex _ _ _ | .string _ | .nilFunc | .nilIface => true
  | .pointer none | .map none | .chan none | .slice none _ _ => true
  | _ => false

/-- Symbols: values that are not known; what is known of them. -/
def scalar : Value → Bool
  | .bool _ | .int _ _ | .string _ => true
  | _ => false
def Sy (σ : Nat → Option Value) (v v' : Value) : Prop := (noAddr v = true ∧ v' = v) ∨ ∃ i, v = .chan (some i) ∧ σ i = some v'
class Sg where
  σ : Nat → Option Value
  sc : ∀ i v, σ i = some v → scalar v = true
  bin : Program → BinOp → TypeId → Value → Value → Option Value
  ok : ∀ (P : Program) (w : World) (op : BinOp) (t : TypeId) (x y : Operand) (a b v a' b' : Value), bin P op t a b = some v → Sy σ a a' → Sy σ b b' →
    ∃ v', (do eqGuard op t x y a' b'; binOp op t a' b' : Sem Value).run P w = .ok v' w ∧ Sy σ v v'
  eqs : Program → TypeId → Value → Value → Bool
  eqs_ok : ∀ (P : Program) (w : World) (d : Nat) (t : TypeId) (a b a' b' : Value), eqs P t a b = true → Sy σ a a' → Sy σ b b' → (Op.equalIn (d + 1) t a' b').run P w = .ok true w
  cnv : Program → TypeId → TypeId → Value → Option Value
  cnv_ok : ∀ (P : Program) (w : World) (s d : TypeId) (a v a' : Value), cnv P s d a = some v → Sy σ a a' → ∃ v', (convert s d a').run P w = .ok v' w ∧ Sy σ v v'
variable [Sg]

inductive VR (φ : Map) : Value → Value → Prop where
  | flat {v : Value} : noAddr v = true → VR φ v v
  | sym {i : Nat} {v' : Value} : Sg.σ i = some v' → VR φ (.chan (some i)) v'
  | ptr {a : Addr} {x : At} : φ a.block = some x → a.spot = none → VR φ (.pointer (some a)) (.pointer (some ⟨x.b, a.off + x.d, none⟩))
  | slice {a : Addr} {x : At} {len cap cap' o : Nat} : φ a.block = some x → a.spot = none → len ≤ cap → cap ≤ cap' → (cap' = cap ∨ (x.grow = true ∧ a.off + x.d + cap' * x.es ≤ x.cs ∧ cap' < 2 ^ 63)) → (o = a.off + x.d ∨ cap' = 0) →
      VR φ (.slice (some a) len cap) (.slice (some ⟨x.b, o, none⟩) len cap')
  | map {r : Nat} {x : At} : φ r = some x → VR φ (.map (some r)) (.map (some x.b))
  | func {fn : Fn} {p c p' c' : Array Value} : p.size = p'.size → (∀ (i : Nat) (h : i < p.size) (h' : i < p'.size), VR φ p[i] p'[i]) →
      c.size = c'.size → (∀ (i : Nat) (h : i < c.size) (h' : i < c'.size), VR φ c[i] c'[i]) → VR φ (.func fn p c) (.func fn p' c')
  | iface {t : TypeId} {v v' : Value} : VR φ v v' → VR φ (.iface t v) (.iface t v')
  | agg {c c' : Array Value} : c.size = c'.size → (∀ (i : Nat) (h : i < c.size) (h' : i < c'.size), VR φ c[i] c'[i]) → VR φ (.agg c) (.agg c')
  | tuple {c c' : Array Value} : c.size = c'.size → (∀ (i : Nat) (h : i < c.size) (h' : i < c'.size), VR φ c[i] c'[i]) → VR φ (.tuple c) (.tuple c')

theorem VR.mono {φ ψ : Map} (h : φ.le ψ) {v v' : Value} (r : VR φ v v') : VR ψ v v' := by
  induction r with
  | flat hf => exact .flat hf
  | sym h1 => exact .sym h1
  | ptr h1 h2 => exact .ptr (h _ _ h1) h2
  | slice h1 h2 h3 h4 h5 h6 => exact .slice (h _ _ h1) h2 h3 h4 h5 h6
  | map h1 => exact .map (h _ _ h1)
  | func h2 _ h4 _ ih1 ih2 => exact .func h2 ih1 h4 ih2
  | iface _ ih => exact .iface ih
  | agg h1 _ ih => exact .agg h1 ih
  | tuple h1 _ ih => exact .tuple h1 ih

/-- Two lists, one by one. -/
inductive VRs (φ : Map) : List Value → List Value → Prop where
  | nil : VRs φ [] []
  | cons {v v' : Value} {l l' : List Value} : VR φ v v' → VRs φ l l' → VRs φ (v :: l) (v' :: l')
theorem VRs.mono {φ ψ : Map} (h : φ.le ψ) {l l' : List Value} (r : VRs φ l l') : VRs ψ l l' := by
  induction r with
  | nil => exact .nil
  | cons h1 _ ih => exact .cons (h1.mono h) ih
theorem VRs.length {φ : Map} {l l' : List Value} (r : VRs φ l l') : l.length = l'.length := by
  induction r with
  | nil => rfl
  | cons _ _ ih => simp [ih]
theorem VRs.get {φ : Map} {l l' : List Value} (r : VRs φ l l') : ∀ (i : Nat) (v : Value), l[i]? = some v → ∃ v', l'[i]? = some v' ∧ VR φ v v' := by
  induction r with
  | nil => intro i v h; simp at h
  | cons h1 _ ih =>
    intro i v h
    cases i with
    | zero => simp at h; subst h; exact ⟨_, by simp, h1⟩
    | succ i => simp at h; obtain ⟨v', h2, h3⟩ := ih i v h; exact ⟨v', by simpa using h2, h3⟩
theorem VRs.of_get {φ : Map} : ∀ (l l' : List Value), l.length = l'.length → (∀ (i : Nat) (v v' : Value), l[i]? = some v → l'[i]? = some v' → VR φ v v') → VRs φ l l' := by
  intro l
  induction l with
  | nil => intro l' h _; cases l' with | nil => exact .nil | cons => simp at h
  | cons v l ih =>
    intro l' h hg
    cases l' with
    | nil => simp at h
    | cons v' l' => exact .cons (hg 0 v v' (by simp) (by simp)) (ih l' (by simpa using h) fun i u u' h1 h2 => hg (i + 1) u u' (by simpa using h1) (by simpa using h2))
theorem VRs.append {φ : Map} {l l' m m' : List Value} (r : VRs φ l l') (s : VRs φ m m') : VRs φ (l ++ m) (l' ++ m') := by
  induction r with
  | nil => exact s
  | cons h _ ih => exact .cons h ih
theorem VRs.of_flat {φ : Map} {l : List Value} (h : l.all noAddr = true) : VRs φ l l := by
  induction l with
  | nil => exact .nil
  | cons v l ih => simp at h; exact .cons (.flat h.1) (ih (by simpa using h.2))
theorem VR.of_aggs {φ : Map} {c c' : Array Value} (h : VRs φ c.toList c'.toList) : VR φ (.agg c) (.agg c') := by
  refine .agg (by simpa using h.length) fun i h1 h2 => ?_
  obtain ⟨v', e, r⟩ := h.get i c[i] (by simp [h1])
  simp [h2] at e
  rw [e]; exact r
theorem VR.of_tuples {φ : Map} {c c' : Array Value} (h : VRs φ c.toList c'.toList) : VR φ (.tuple c) (.tuple c') := by
  refine .tuple (by simpa using h.length) fun i h1 h2 => ?_
  obtain ⟨v', e, r⟩ := h.get i c[i] (by simp [h1])
  simp [h2] at e
  rw [e]; exact r
theorem VRs.of_array {φ : Map} {c c' : Array Value} (h : c.size = c'.size) (g : ∀ (i : Nat) (h : i < c.size) (h' : i < c'.size), VR φ c[i] c'[i]) : VRs φ c.toList c'.toList := by
  refine VRs.of_get _ _ (by simpa using h) fun i v v' h1 h2 => ?_
  have k1 : i < c.size := by
    rcases Nat.lt_or_ge i c.size with h | h
    · exact h
    · simp [Array.getElem?_eq_none h] at h1
  have k2 : i < c'.size := by omega
  simp [k1] at h1
  simp [k2] at h2
  rw [← h1, ← h2]; exact g i k1 k2

/-- What one of two related values is, by the other's form. -/
theorem VR.agg_inv {φ : Map} {c : Array Value} {v' : Value} (h : VR φ (.agg c) v') : ∃ c', v' = .agg c' ∧ VRs φ c.toList c'.toList := by
  cases h with
  | flat h => simp [noAddr] at h
  | agg h g => exact ⟨_, rfl, VRs.of_array h g⟩
theorem VR.tuple_inv {φ : Map} {c : Array Value} {v' : Value} (h : VR φ (.tuple c) v') : ∃ c', v' = .tuple c' ∧ VRs φ c.toList c'.toList := by
  cases h with
  | flat h => simp [noAddr] at h
  | tuple h g => exact ⟨_, rfl, VRs.of_array h g⟩
theorem VR.iface_inv {φ : Map} {t : TypeId} {v v' : Value} (h : VR φ (.iface t v) v') : ∃ u, v' = .iface t u ∧ VR φ v u := by
  cases h with
  | flat h => simp [noAddr] at h
  | iface h => exact ⟨_, rfl, h⟩
theorem VR.flat_inv {φ : Map} {v v' : Value} (h : VR φ v v') (hf : noAddr v = true) : v' = v := by
  cases h <;> first | rfl | (simp [noAddr] at hf)
theorem VR.of_sy {φ : Map} {v v' : Value} (h : Sy Sg.σ v v') : VR φ v v' := by
  rcases h with ⟨h, rfl⟩ | ⟨i, rfl, h⟩
  · exact .flat h
  · exact .sym h
theorem VR.sy {φ : Map} {v v' : Value} (h : VR φ v v') (hs : noAddr v = true ∨ ∃ i, v = .chan (some i)) : Sy Sg.σ v v' := by
  rcases hs with hs | ⟨i, rfl⟩
  · exact .inl ⟨hs, h.flat_inv hs⟩
  · cases h with
    | flat h => simp [noAddr] at h
    | sym h => exact .inr ⟨i, rfl, h⟩
theorem VR.ptr_inv {φ : Map} {a : Addr} {v' : Value} (h : VR φ (.pointer (some a)) v') : ∃ x, φ a.block = some x ∧ a.spot = none ∧ v' = .pointer (some ⟨x.b, a.off + x.d, none⟩) := by
  cases h with
  | flat h => simp [noAddr] at h
  | ptr h1 h2 => exact ⟨_, h1, h2, rfl⟩
theorem VR.slice_inv {φ : Map} {a : Addr} {len cap : Nat} {v' : Value} (h : VR φ (.slice (some a) len cap) v') :
    ∃ x cap' o, φ a.block = some x ∧ a.spot = none ∧ len ≤ cap ∧ cap ≤ cap' ∧ (cap' = cap ∨ (x.grow = true ∧ a.off + x.d + cap' * x.es ≤ x.cs ∧ cap' < 2 ^ 63)) ∧ (o = a.off + x.d ∨ cap' = 0) ∧ v' = .slice (some ⟨x.b, o, none⟩) len cap' := by
  cases h with
  | flat h => simp [noAddr] at h
  | slice h1 h2 h3 h4 h5 h6 => exact ⟨_, _, _, h1, h2, h3, h4, h5, h6, rfl⟩
theorem VR.map_inv {φ : Map} {r : Nat} {v' : Value} (h : VR φ (.map (some r)) v') : ∃ x, φ r = some x ∧ v' = .map (some x.b) := by
  cases h with
  | flat h => simp [noAddr] at h
  | map h1 => exact ⟨_, h1, rfl⟩
theorem VR.func_inv {φ : Map} {fn : Fn} {p c : Array Value} {v' : Value} (h : VR φ (.func fn p c) v') :
    ∃ p' c', v' = .func fn p' c' ∧ VRs φ p.toList p'.toList ∧ VRs φ c.toList c'.toList := by
  cases h with
  | flat h => simp [noAddr] at h
  | func h1 h2 h3 h4 => exact ⟨_, _, rfl, VRs.of_array h1 h2, VRs.of_array h3 h4⟩
theorem VR.cells {φ : Map} {v v' : Value} (h : VR φ v v') : VRs φ v.cells.toList v'.cells.toList := by
  cases h with
  | flat h => cases v <;> first | (simp [noAddr] at h; done) | exact .cons (.flat h) .nil
  | sym h =>
    have := Sg.sc _ _ h
    cases v' <;> first | (simp [scalar] at this; done) | exact .cons (.sym h) .nil
  | agg h g => exact VRs.of_array h g
  | ptr h1 h2 => exact .cons (.ptr h1 h2) .nil
  | slice h1 h2 h3 h4 h5 h6 => exact .cons (.slice h1 h2 h3 h4 h5 h6) .nil
  | map h => exact .cons (.map h) .nil
  | func h1 h2 h3 h4 => exact .cons (.func h1 h2 h3 h4) .nil
  | iface h => exact .cons (.iface h) .nil
  | tuple h g => exact .cons (.tuple h g) .nil
theorem VR.oneCell {φ : Map} {v v' : Value} (h : VR φ v v') : v'.oneCell' = v.oneCell' := by
  cases h <;> first
    | rfl
    | (rename_i h
       have := Sg.sc _ _ h
       cases v' <;> first | (simp [scalar] at this; done) | rfl)

/-! ### Memory -/
inductive AObj where
  | cells (c : PT Value) (n : Nat) (elem : TypeId)
  | map (es : List MapEntry) (clock : Nat)
  | dead

structure AHeap where
  m : PT AObj
  next : Nat
  ro : Nat

/-- What a map's entries are, one by one. -/
inductive ERs (φ : Map) : List MapEntry → List MapEntry → Prop where
  | nil : ERs φ [] []
  | cons {x y : MapEntry} {l l' : List MapEntry} : VR φ x.key y.key → VR φ x.val y.val → x.born = y.born → ERs φ l l' → ERs φ (x :: l) (y :: l')
theorem ERs.mono {φ ψ : Map} (h : φ.le ψ) {l l' : List MapEntry} (r : ERs φ l l') : ERs ψ l l' := by
  induction r with
  | nil => exact .nil
  | cons h1 h2 h3 _ ih => exact .cons (h1.mono h) (h2.mono h) h3 ih

/-- What a block of the abstract memory says of the model's. -/
def ObjR (φ : Map) (x : At) (w : World) (own : Bool) : AObj → Prop
  | .dead => True
  | .map es clock => ∃ es' : Array MapEntry, w.heap[x.b]? = some (.map es' clock) ∧ ERs φ es es'.toList
  | .cells c n elem => ∃ (C : Array Value) (f : Nat × Nat) (E : TypeId), w.heap[x.b]? = some (.cells C E f) ∧ (own = true → f = (0, 0) ∧ E = elem) ∧ C.size = x.cs ∧ x.d + n ≤ x.cs ∧ ∀ i v, i < n → c.get i = some v → ∃ v', C[x.d + i]? = some v' ∧ VR φ v v'

def AObj.live : AObj → Bool
  | .dead => false
  | _ => true

/-- W: the world in which the law began; K: how many blocks stand for themselves; J: blocks of the model's that stand for nothing, and stay as they are. -/
structure Rel (P : Program) (W : World) (K : Nat) (J : Nat → Option Obj) (φ : Map) (h : AHeap) (w : World) : Prop where
  below : Below W.heap.size W w
  obj : ∀ B o, h.m.get B = some o → ∃ x, φ B = some x ∧ ObjR φ x w (decide (h.ro ≤ B)) o
  dom : ∀ B x, φ B = some x → B < h.next
  inj : ∀ B C x y o p, h.m.get B = some o → h.m.get C = some p → o.live = true → p.live = true → φ B = some x → φ C = some y → x.b = y.b → B = C
  old : ∀ B x, φ B = some x → h.ro ≤ B → W.heap.size ≤ x.b
  self : ∀ B, B < K → ∃ cs es, φ B = some ⟨B, 0, es, cs, false⟩
  ro : h.ro ≤ h.next
  junk : ∀ b O, J b = some O → w.heap[b]? = some O ∧ ∀ B x, φ B = some x → h.ro ≤ B → x.b ≠ b
  es : ∀ B x c n E, φ B = some x → x.grow = true → h.m.get B = some (.cells c n E) → ∃ i, P.info? E = some i ∧ x.es = i.size

namespace AHeap
def cell? (h : AHeap) (a : Addr) : Option Value :=
  if a.spot.isSome then none else
  match h.m.get a.block with
  | some (.cells c n _) => if a.off < n then c.get a.off else none
  | _ => none
/-- k cells from an address on. -/
def row? (h : AHeap) (a : Addr) (k : Nat) : Option (List Value) :=
  if k = 0 then some [] else
  if a.spot.isSome then none else
  match h.m.get a.block with
  | some (.cells c n _) => if a.off + k ≤ n then c.row a.off k else none
  | _ => none
def store (h : AHeap) (a : Addr) (l : List Value) : Option AHeap :=
  if l.isEmpty then some h else
  if a.spot.isSome then none else
  match h.m.get a.block with
  | some (.cells c n e) => if h.ro ≤ a.block ∧ a.off + l.length ≤ n ∧ l.all Value.oneCell' = true then some { h with m := h.m.set a.block (.cells (c.put a.off l) n e) } else none
  | _ => none
def new (h : AHeap) (o : AObj) : AHeap := { h with m := h.m.set h.next o, next := h.next + 1 }
end AHeap

section
variable {P : Program} {W : World} {K : Nat} {J : Nat → Option Obj} {φ : Map} {h : AHeap} {w : World}

theorem Rel.congr (R : Rel P W K J φ h w) {h' : AHeap} (hm : ∀ B, h'.m.get B = h.m.get B) (hn : h'.next = h.next) (hr : h'.ro = h.ro) : Rel P W K J φ h' w :=
  ⟨R.below, fun B o e => by rw [hr]; exact R.obj B o (by rw [← hm]; exact e), fun B x e => by rw [hn]; exact R.dom B x e,
   fun B C x y o p e1 e2 => R.inj B C x y o p (by rw [← hm]; exact e1) (by rw [← hm]; exact e2),
   fun B x e1 e2 => R.old B x e1 (by rw [← hr]; exact e2), R.self, by rw [hn, hr]; exact R.ro, fun b O e => by rw [hr]; exact R.junk b O e,
   fun B x c n E e1 e2 e3 => R.es B x c n E e1 e2 (by rw [← hm]; exact e3)⟩

theorem Rel.drew (R : Rel P W K J φ h w) : Rel P W K J φ h w.drew :=
  ⟨R.below.drew, R.obj, R.dom, R.inj, R.old, R.self, R.ro, R.junk, R.es⟩

theorem Rel.live_lt (R : Rel P W K J φ h w) {B : Nat} {o : AObj} {x : At} (hB : h.m.get B = some o) (hl : o.live = true) (hx : φ B = some x) : x.b < w.heap.size := by
  obtain ⟨y, hy, hobj⟩ := R.obj B o hB
  rw [hx] at hy; cases hy
  have key : ∀ O : Obj, w.heap[x.b]? = some O → x.b < w.heap.size := by
    intro O hO
    rcases Nat.lt_or_ge x.b w.heap.size with h | h
    · exact h
    · rw [Array.getElem?_eq_none h] at hO; cases hO
  cases o with
  | dead => cases hl
  | map es clock => obtain ⟨_, h1, _⟩ := hobj; exact key _ h1
  | cells c n e => obtain ⟨_, _, _, h1, _⟩ := hobj; exact key _ h1

/-- Where a live block lies. -/
theorem Rel.cells (R : Rel P W K J φ h w) {B n : Nat} {c : PT Value} {e : TypeId} (hB : h.m.get B = some (.cells c n e)) :
    ∃ x C f E, φ B = some x ∧ w.heap[x.b]? = some (.cells C E f) ∧ (h.ro ≤ B → f = (0, 0) ∧ E = e) ∧ C.size = x.cs ∧ x.d + n ≤ x.cs ∧ ∀ i v, i < n → c.get i = some v → ∃ v', C[x.d + i]? = some v' ∧ VR φ v v' := by
  obtain ⟨x, hx, C, f, E, h1, h0, h2, h3, h4⟩ := R.obj B _ hB
  exact ⟨x, C, f, E, hx, h1, fun h => h0 (by simpa using h), h2, h3, h4⟩

theorem cell_of {w : World} {b : Nat} {C : Array Value} {e : TypeId} {f : Nat × Nat} (h : w.heap[b]? = some (.cells C e f)) (i : Nat) : w.cell? ⟨b, i, none⟩ = C[i]? := by
  simp [World.cell?, h]

theorem Rel.cell (R : Rel P W K J φ h w) {a : Addr} {v : Value} {x : At} (ha : h.cell? a = some v) (hx : φ a.block = some x) :
    a.spot = none ∧ ∃ v', w.cell? ⟨x.b, a.off + x.d, none⟩ = some v' ∧ VR φ v v' := by
  unfold AHeap.cell? at ha
  split at ha
  · cases ha
  · rename_i hs
    have hs' : a.spot = none := by cases hh : a.spot <;> simp_all
    split at ha
    · rename_i c n e hB
      split at ha
      · rename_i hlt
        obtain ⟨y, C, f, E, hy, h1, _, h2, h3, h4⟩ := R.cells hB
        rw [hx] at hy; cases hy
        obtain ⟨v', h5, h6⟩ := h4 _ _ hlt ha
        exact ⟨hs', v', by rw [cell_of h1, Nat.add_comm]; exact h5, h6⟩
      · cases ha
    · cases ha

theorem addr_add (b o k : Nat) : (⟨b, o, none⟩ : Addr).add k = ⟨b, o + k, none⟩ := by
  unfold Addr.add
  split
  · rename_i h; subst h; rfl
  · rfl

theorem loadCellsFrom_run (P : Program) (w : World) (b o : Nat) : ∀ (k i : Nat) (acc : Array Value) (l : List Value), l.length = k → (∀ j, j < k → w.cell? ⟨b, o + i + j, none⟩ = l[j]?) →
    (loadCellsFrom ⟨b, o, none⟩ i k acc).run P w = .ok (acc ++ l.toArray) w := by
  intro k
  induction k with
  | zero => intro i acc l h _; rw [List.length_eq_zero_iff.1 h]; simp [loadCellsFrom]
  | succ k ih =>
    intro i acc l h hg
    cases l with
    | nil => simp at h
    | cons v l =>
      have h0 := hg 0 (by omega)
      simp at h0
      simp only [loadCellsFrom, addr_add, Sem.run_bind, run_load, h0, Result.andThen_ok]
      rw [ih (i + 1) (acc.push v) l (by simpa using h) (fun j hj => by
        have := hg (j + 1) (by omega)
        rw [List.getElem?_cons_succ] at this
        rw [← this, show o + (i + 1) + j = o + i + (j + 1) by omega])]
      simp

theorem loadCells_run (P : Program) (w : World) (b o k : Nat) (l : List Value) (h : l.length = k) (hg : ∀ j, j < k → w.cell? ⟨b, o + j, none⟩ = l[j]?) :
    (loadCells ⟨b, o, none⟩ k).run P w = .ok l.toArray w := by
  unfold loadCells
  rw [loadCellsFrom_run P w b o k 0 #[] l h (by simpa using hg)]
  simp

/-- A row of cells, read. -/
theorem Rel.row (R : Rel P W K J φ h w) {a : Addr} {k : Nat} {l : List Value} {x : At} (ha : h.row? a k = some l) (hx : φ a.block = some x) :
    ∃ l', (loadCells ⟨x.b, a.off + x.d, none⟩ k).run P w = .ok l'.toArray w ∧ VRs φ l l' ∧ l.length = k := by
  unfold AHeap.row? at ha
  split at ha
  · rename_i h0
    subst h0
    cases ha
    exact ⟨[], by rw [loadCells_run P w _ _ 0 [] rfl (fun j hj => by omega)], .nil, rfl⟩
  · split at ha
    · cases ha
    · split at ha
      · rename_i c n e hB
        split at ha
        · rename_i hle
          obtain ⟨y, C, f, E, hy, h1, _, h2, h3, h4⟩ := R.cells hB
          rw [hx] at hy; cases hy
          obtain ⟨hl, hg⟩ := PT.row_spec _ _ _ _ ha
          have key : ∀ j, j < k → ∃ v v', l[j]? = some v ∧ C[x.d + (a.off + j)]? = some v' ∧ VR φ v v' := by
            intro j hj
            obtain ⟨v, hv⟩ : ∃ v, l[j]? = some v := ⟨l[j]'(by omega), by simp [show j < l.length by omega]⟩
            have := hg j hj
            rw [hv] at this
            obtain ⟨v', h5, h6⟩ := h4 (a.off + j) v (by omega) this
            exact ⟨v, v', hv, h5, h6⟩
          refine ⟨(List.range k).map fun j => (C[x.d + (a.off + j)]?).getD undef, ?_, ?_, hl⟩
          · refine loadCells_run P w _ _ k _ (by simp) fun j hj => ?_
            obtain ⟨v, v', _, h5, _⟩ := key j hj
            rw [cell_of h1, show a.off + x.d + j = x.d + (a.off + j) by omega]
            simp [hj, h5]
          · refine VRs.of_get _ _ (by simp [hl]) fun i v v' e1 e2 => ?_
            have hi : i < k := by
              rcases Nat.lt_or_ge i k with hi | hi
              · exact hi
              · rw [List.getElem?_eq_none (by omega)] at e1; cases e1
            obtain ⟨u, u', g1, g2, g3⟩ := key i hi
            simp [hi, g2] at e2
            rw [g1] at e1; cases e1; subst e2; exact g3
        · cases ha
      · cases ha

omit [Sg] in
theorem getElem?_lt {α : Type} {C : Array α} {i : Nat} {v : α} (h : C[i]? = some v) : i < C.size := by
  rcases Nat.lt_or_ge i C.size with h' | h'
  · exact h'
  · rw [Array.getElem?_eq_none h'] at h; cases h

/-- One cell, written. -/
theorem Rel.set (R : Rel P W K J φ h w) {B n i : Nat} {c : PT Value} {e : TypeId} {x : At} {v v' : Value} (hB : h.m.get B = some (.cells c n e)) (hro : h.ro ≤ B) (hi : i < n)
    (hx : φ B = some x) (hv : VR φ v v') (h1 : v'.oneCell' = true) :
    (Go.store ⟨x.b, i + x.d, none⟩ v').run P w = .ok () (w.setCell ⟨x.b, i + x.d, none⟩ v') ∧
    Rel P W K J φ { h with m := h.m.set B (.cells (c.set i v) n e) } (w.setCell ⟨x.b, i + x.d, none⟩ v') := by
  obtain ⟨y, C, f, E, hy, g1, g0, g2, g3, g4⟩ := R.cells hB
  obtain ⟨rfl, hE0⟩ := g0 hro
  rw [hE0] at g1
  clear g0 hE0
  rw [hx] at hy; cases hy
  have hlt : i + x.d < C.size := by omega
  have hcell : w.cell? ⟨x.b, i + x.d, none⟩ = some (C[i + x.d]) := by rw [cell_of g1]; simp [hlt]
  have hfr : w.frozen? ⟨x.b, i + x.d, none⟩ = false := by simp [World.frozen?, g1]
  have hheap : ∀ k, (w.setCell ⟨x.b, i + x.d, none⟩ v').heap[k]? = if k = x.b then some (.cells (C.setIfInBounds (i + x.d) v') e (0, 0)) else w.heap[k]? := by
    intro k
    simp only [World.setCell, Array.getElem?_modify]
    by_cases hk : x.b = k
    · subst hk; simp [g1]
    · rw [if_neg hk, if_neg (fun h => hk h.symm)]
  refine ⟨by rw [run_store P w _ _ _ h1, hcell, hfr]; rfl, ?_⟩
  refine ⟨R.below.setCell (R.old B x hx hro) v', ?_, R.dom, ?_, R.old, R.self, R.ro,
    fun b O hb => ⟨by rw [hheap, if_neg (fun e => (R.junk b O hb).2 B x hx hro e.symm)]; exact (R.junk b O hb).1, (R.junk b O hb).2⟩,
    fun D y c' n' E e1 e2 e3 => by
      rw [PT.get_set] at e3
      split at e3
      · rename_i hBD; subst hBD; cases e3; exact R.es B y c n e e1 e2 hB
      · exact R.es D y c' n' E e1 e2 e3⟩
  · intro D o hD
    rw [PT.get_set] at hD
    by_cases hBD : B = D
    · subst hBD
      rw [if_pos rfl] at hD; cases hD
      refine ⟨x, hx, C.setIfInBounds (i + x.d) v', (0, 0), _, by rw [hheap, if_pos rfl], fun _ => ⟨rfl, rfl⟩, by simpa using g2, g3, fun j u hj hu => ?_⟩
      rw [PT.get_set] at hu
      by_cases hij : i = j
      · subst hij
        rw [if_pos rfl] at hu; cases hu
        exact ⟨v', by rw [show x.d + i = i + x.d by omega]; simp [hlt], hv⟩
      · rw [if_neg hij] at hu
        obtain ⟨u', h5, h6⟩ := g4 j u hj hu
        exact ⟨u', by rw [Array.getElem?_setIfInBounds_ne (by omega)]; exact h5, h6⟩
    · rw [if_neg hBD] at hD
      obtain ⟨y, hy, hobj⟩ := R.obj D o hD
      refine ⟨y, hy, ?_⟩
      cases o with
      | dead => trivial
      | map es clock =>
        have hne : y.b ≠ x.b := fun e => hBD (R.inj B D x y _ _ hB hD rfl rfl hx hy e.symm)
        obtain ⟨es', k1, k2⟩ := hobj
        exact ⟨es', by rw [hheap, if_neg hne]; exact k1, k2⟩
      | cells c' n' e' =>
        have hne : y.b ≠ x.b := fun e => hBD (R.inj B D x y _ _ hB hD rfl rfl hx hy e.symm)
        obtain ⟨C', f', E', k1, k2⟩ := hobj
        exact ⟨C', f', E', by rw [hheap, if_neg hne]; exact k1, k2⟩
  · intro D E y z o p hD hE l1 l2 e1 e2 e3
    rw [PT.get_set] at hD hE
    by_cases hBD : B = D
    · by_cases hBE : B = E
      · rw [← hBD, ← hBE]
      · rw [if_neg hBE] at hE
        rw [hBD] at hB
        exact R.inj D E y z _ p hB hE rfl l2 e1 e2 e3
    · rw [if_neg hBD] at hD
      by_cases hBE : B = E
      · rw [hBE] at hB
        exact R.inj D E y z o _ hD hB l1 rfl e1 e2 e3
      · rw [if_neg hBE] at hE
        exact R.inj D E y z o p hD hE l1 l2 e1 e2 e3

theorem storeCells_run (P : Program) {W : World} {K : Nat} {J : Nat → Option Obj} {φ : Map} {B n : Nat} {e : TypeId} {x : At} (hx : φ B = some x) {l l' : List Value} (hl : VRs φ l l') :
    ∀ (h : AHeap) (w : World) (c : PT Value) (o k : Nat), Rel P W K J φ h w → h.m.get B = some (.cells c n e) → h.ro ≤ B → o + k + l.length ≤ n → l.all Value.oneCell' = true →
    ∃ w', (storeCells ⟨x.b, o + x.d, none⟩ l' k).run P w = .ok () w' ∧ Rel P W K J φ { h with m := h.m.set B (.cells (c.put (o + k) l) n e) } w' := by
  induction hl with
  | nil =>
    intro h w c o k R hB hro hle hone
    refine ⟨w, rfl, R.congr (fun D => ?_) rfl rfl⟩
    rw [PT.get_set]
    split
    · rename_i hD; subst hD; exact hB.symm
    · rfl
  | @cons v v' l l' hv _ ih =>
    intro h w c o k R hB hro hle hone
    simp only [List.all_cons, Bool.and_eq_true] at hone
    simp only [List.length_cons] at hle
    have h1 : v'.oneCell' = true := by rw [hv.oneCell]; exact hone.1
    obtain ⟨hrun, R'⟩ := R.set (i := o + k) hB hro (by omega) hx hv h1
    obtain ⟨w', hrun', R''⟩ := ih _ _ (c.set (o + k) v) o (k + 1) R' (by simp) hro (by omega) hone.2
    refine ⟨w', ?_, R''.congr (fun D => ?_) rfl rfl⟩
    · simp only [storeCells, addr_add, Sem.run_bind]
      rw [show o + x.d + k = o + k + x.d by omega, hrun]
      exact hrun'
    · simp only [PT.put, PT.get_set]
      split <;> rfl

/-- A row of cells, written. -/
theorem Rel.store (R : Rel P W K J φ h w) {a : Addr} {l l' : List Value} {x : At} {h' : AHeap} (ha : h.store a l = some h') (hx : φ a.block = some x) (hl : VRs φ l l') :
    ∃ w', (storeCells ⟨x.b, a.off + x.d, none⟩ l').run P w = .ok () w' ∧ Rel P W K J φ h' w' := by
  unfold AHeap.store at ha
  split at ha
  · rename_i h0
    cases ha
    have : l = [] := by simpa using h0
    subst this
    cases hl
    exact ⟨w, rfl, R⟩
  · split at ha
    · cases ha
    · split at ha
      · rename_i c n e hB
        split at ha
        · rename_i hc
          cases ha
          exact storeCells_run P hx hl h w c a.off 0 R hB hc.1 (by omega) hc.2.2
        · cases ha
      · cases ha

/-- A new block. -/
theorem Rel.new (R : Rel P W K J φ h w) {o : AObj} {O : Obj} {x : At} (hb' : x.b = w.heap.size) (hx : x.grow = true → ∀ c n E, o = .cells c n E → ∃ i, P.info? E = some i ∧ x.es = i.size)
    (ho : ∀ ψ w', φ.le ψ → w'.heap[w.heap.size]? = some O → ObjR ψ x w' true o) :
    ∃ ψ, φ.le ψ ∧ ψ h.next = some x ∧ Rel P W K J ψ (h.new o) (w.alloc O) := by
  let ψ : Map := fun B => if B = h.next then some x else φ B
  have hle : φ.le ψ := fun B y e => by
    have := R.dom B y e
    show (if B = h.next then some x else φ B) = some y
    rw [if_neg (by omega)]; exact e
  have hnew : (w.alloc O).heap[w.heap.size]? = some O := by
    show (w.heap.push O)[w.heap.size]? = some O
    simp
  have hinv : ∀ B y, ψ B = some y → (B = h.next ∧ y = x) ∨ (B ≠ h.next ∧ φ B = some y) := by
    intro B y e
    have e : (if B = h.next then some x else φ B) = some y := e
    split at e
    · rename_i hB; cases e; exact .inl ⟨hB, rfl⟩
    · rename_i hB; exact .inr ⟨hB, e⟩
  have hself : ψ h.next = some x := if_pos rfl
  refine ⟨ψ, hle, hself, ?_⟩
  refine ⟨R.below.alloc R.below.size O, ?_, ?_, ?_, ?_, ?_, ?_, ?_, ?_⟩
  · intro B p hB
    simp only [AHeap.new, PT.get_set] at hB
    split at hB
    · rename_i hn
      cases hB
      subst hn
      refine ⟨x, hself, ?_⟩
      have hro : decide ((h.new o).ro ≤ h.next) = true := decide_eq_true R.ro
      rw [hro]
      exact ho ψ _ hle hnew
    · obtain ⟨y, hy, hobj⟩ := R.obj B p hB
      refine ⟨y, hle _ _ hy, ?_⟩
      have hold : p.live = true → (w.alloc O).heap[y.b]? = w.heap[y.b]? := by
        intro hl
        have hlt := R.live_lt hB hl hy
        show (w.heap.push O)[y.b]? = _
        rw [Array.getElem?_push, if_neg (by omega)]
      cases p with
      | dead => trivial
      | map es clock =>
        have hold := hold rfl
        obtain ⟨es', k1, k2⟩ := hobj
        exact ⟨es', by rw [hold]; exact k1, k2.mono hle⟩
      | cells c n e =>
        have hold := hold rfl
        obtain ⟨C, f, E, k1, k0, k2, k3, k4⟩ := hobj
        exact ⟨C, f, E, by rw [hold]; exact k1, k0, k2, k3, fun i v hi hv => by obtain ⟨v', h5, h6⟩ := k4 i v hi hv; exact ⟨v', h5, h6.mono hle⟩⟩
  · intro B y e
    show B < h.next + 1
    rcases hinv B y e with ⟨h1, _⟩ | ⟨_, h1⟩
    · omega
    · have := R.dom B y h1; omega
  · intro B C y z p q hB hC l1 l2 e1 e2 e3
    simp only [AHeap.new, PT.get_set] at hB hC
    rcases hinv B y e1 with ⟨h1, h2⟩ | ⟨h1, h2⟩ <;> rcases hinv C z e2 with ⟨h3, h4⟩ | ⟨h3, h4⟩
    · rw [h1, h3]
    · rw [if_neg (fun e => h3 e.symm)] at hC; have := R.live_lt hC l2 h4; rw [h2, hb'] at e3; omega
    · rw [if_neg (fun e => h1 e.symm)] at hB; have := R.live_lt hB l1 h2; rw [h4, hb'] at e3; omega
    · rw [if_neg (fun e => h1 e.symm)] at hB
      rw [if_neg (fun e => h3 e.symm)] at hC
      exact R.inj B C y z p q hB hC l1 l2 h2 h4 e3
  · intro B y e1 e2
    rcases hinv B y e1 with ⟨h1, h2⟩ | ⟨h1, h2⟩
    · rw [h2, hb']; exact R.below.size
    · exact R.old B y h2 e2
  · intro B hB
    obtain ⟨cs, es, e⟩ := R.self B hB
    exact ⟨cs, es, hle _ _ e⟩
  · show h.ro ≤ h.next + 1
    have := R.ro; omega
  · intro b O' hb
    obtain ⟨j1, j2⟩ := R.junk b O' hb
    have hlt : b < w.heap.size := getElem?_lt j1
    refine ⟨?_, fun B y e hroB => ?_⟩
    · show (w.heap.push O)[b]? = _
      rw [Array.getElem?_push, if_neg (by omega)]; exact j1
    · rcases hinv B y e with ⟨h1, h2⟩ | ⟨h1, h2⟩
      · rw [h2, hb']; omega
      · exact j2 B y h2 hroB
  · intro B y c n E e1 e2 e3
    simp only [AHeap.new, PT.get_set] at e3
    rcases hinv B y e1 with ⟨h1, h2⟩ | ⟨h1, h2⟩
    · rw [if_pos h1.symm] at e3; cases e3; subst h2; exact hx e2 _ _ _ rfl
    · rw [if_neg (fun e => h1 e.symm)] at e3; exact R.es B y c n E h2 e2 e3

/-- A new row of cells. -/
theorem Rel.newRow (R : Rel P W K J φ h w) {l l' : List Value} (hl : VRs φ l l') (e : TypeId) (es : Nat) (rest : Array Value) (g : Bool) (hg : g = true → ∃ i, P.info? e = some i ∧ es = i.size) :
    ∃ ψ, φ.le ψ ∧ ψ h.next = some ⟨w.heap.size, 0, es, l.length + rest.size, g⟩ ∧ (Go.newRow e (l'.toArray ++ rest)).run P w = .ok ⟨w.heap.size, 0, none⟩ (w.alloc (.cells (l'.toArray ++ rest) e)) ∧
      Rel P W K J ψ (h.new (.cells (PT.ofList l) l.length e)) (w.alloc (.cells (l'.toArray ++ rest) e)) := by
  obtain ⟨ψ, h1, h2, h3⟩ := R.new (o := .cells (PT.ofList l) l.length e) (O := .cells (l'.toArray ++ rest) e) (x := ⟨w.heap.size, 0, es, l.length + rest.size, g⟩) rfl (fun hgt c n E hc => by cases hc; exact hg hgt) (by
    intro ψ w' hle hw
    refine ⟨l'.toArray ++ rest, (0, 0), _, hw, fun _ => ⟨rfl, rfl⟩, by simp [hl.length], by simp, fun i v hi hv => ?_⟩
    rw [PT.get_ofList] at hv
    obtain ⟨v', h5, h6⟩ := hl.get i v hv
    have hi' : i < l'.length := by rw [← hl.length]; exact hi
    refine ⟨v', ?_, h6.mono hle⟩
    rw [Nat.zero_add, Array.getElem?_append_left (by simpa using hi')]
    simpa using h5)
  exact ⟨ψ, h1, h2, by simp [Go.newRow], h3⟩
end
end Go.Ab
namespace Go.Ab
open Go.RowKit
set_option linter.unusedVariables false
set_option linter.unusedSectionVars false

/-! ### Operations that only compute -/
def pureRun {α : Type} (P : Program) : Sem α → Option α
  | .pure a => some a
  | .program k => pureRun P (k P)
  | .mark _ k => pureRun P k
  | _ => none

theorem pureRun_run {α : Type} (P : Program) (w : World) (s : Sem α) (a : α) (h : pureRun P s = some a) : s.run P w = .ok a w := by
  induction s with
  | pure b => simp only [pureRun, Option.some.injEq] at h; subst h; rfl
  | program k ih => exact ih P h
  | mark m k ih => exact ih h
  | _ => simp [pureRun] at h

theorem pureRun_bind {α β : Type} (P : Program) (s : Sem α) (f : α → Sem β) : pureRun P (s >>= f) = (pureRun P s).bind fun a => pureRun P (f a) := by
  show pureRun P (s.bind f) = _
  induction s with
  | pure b => rfl
  | program k ih => exact ih P
  | mark m k ih => exact ih
  | _ => rfl

/-- No address in it at all, down to a depth. -/
def cleanN : Nat → Value → Bool
  | _, .bool _ | _, .int _ _ | _, .string _ | _, .nilFunc | _, .nilIface | _, .float _ _ | _, .complex _ _ _ => true
  | _, .pointer none | _, .map none | _, .chan none | _, .slice none _ _ => true
  | n + 1, .iface _ v => cleanN n v
  | n + 1, .agg c => c.toList.all (cleanN n)
  | n + 1, .tuple c => c.toList.all (cleanN n)
  | _, _ => false
abbrev clean (v : Value) : Bool := cleanN 6 v

variable [Sg]
theorem cleanN_eq (φ : Map) : ∀ (n : Nat) (v v' : Value), cleanN n v = true → VR φ v v' → v' = v := by
  intro n
  induction n with
  | zero =>
    intro v v' h r
    cases r <;> first | rfl | (simp [cleanN] at h; done)
  | succ n ih =>
    have arr : ∀ l l' : List Value, l.all (cleanN n) = true → VRs φ l l' → l' = l := by
      intro l l' h r
      induction r with
      | nil => rfl
      | cons h1 _ ih2 =>
        simp only [List.all_cons, Bool.and_eq_true] at h
        rw [ih _ _ h.1 h1, ih2 h.2]
    intro v v' h r
    cases r with
    | flat _ => rfl
    | iface r => simp only [cleanN] at h; rw [ih _ _ h r]
    | agg h1 h2 => simp only [cleanN] at h; have := arr _ _ h (VRs.of_array h1 h2); rw [Array.toList_inj.1 this]
    | tuple h1 h2 => simp only [cleanN] at h; have := arr _ _ h (VRs.of_array h1 h2); rw [Array.toList_inj.1 this]
    | _ => simp [cleanN] at h
theorem cleanN_self (φ : Map) : ∀ (n : Nat) (v : Value), cleanN n v = true → VR φ v v := by
  intro n
  induction n with
  | zero =>
    intro v h
    refine .flat ?_
    cases v <;> first | rfl | (simp [cleanN] at h; done) | (rename_i o; cases o <;> first | rfl | (simp [cleanN] at h; done)) | (rename_i o _ _; cases o <;> first | rfl | (simp [cleanN] at h; done))
  | succ n ih =>
    have arr : ∀ l : List Value, l.all (cleanN n) = true → VRs φ l l := by
      intro l h
      induction l with
      | nil => exact .nil
      | cons v l ih2 => simp only [List.all_cons, Bool.and_eq_true] at h; exact .cons (ih v h.1) (ih2 h.2)
    intro v h
    cases v with
    | iface t v => simp only [cleanN] at h; exact .iface (ih v h)
    | agg c => simp only [cleanN] at h; exact .of_aggs (arr _ h)
    | tuple c => simp only [cleanN] at h; exact .of_tuples (arr _ h)
    | pointer o => cases o with | none => exact .flat rfl | some => simp [cleanN] at h
    | map o => cases o with | none => exact .flat rfl | some => simp [cleanN] at h
    | chan o => cases o with | none => exact .flat rfl | some => simp [cleanN] at h
    | slice o _ _ => cases o with | none => exact .flat rfl | some => simp [cleanN] at h
    | func _ _ _ => simp [cleanN] at h
    | _ => exact .flat rfl
theorem clean_eq {φ : Map} {v v' : Value} (h : clean v = true) (r : VR φ v v') : v' = v := cleanN_eq φ _ _ _ h r
theorem clean_self {φ : Map} {v : Value} (h : clean v = true) : VR φ v v := cleanN_self φ _ _ h
theorem clean_mem {φ : Map} {l : List Value} (h : l.all clean = true) : VRs φ l l := by
  induction l with
  | nil => exact .nil
  | cons v l ih => simp only [List.all_cons, Bool.and_eq_true] at h; exact .cons (clean_self h.1) (ih h.2)

/-! ### What comes of an operation -/
inductive AN where
  | val (v : Value)
  | call (f : FuncId) (args : List Value)

def Met (P : Program) (W : World) (K : Nat) (J : Nat → Option Obj) (φ : Map) (an : AN) (h' : AHeap) (r : Result Next) : Prop :=
  ∃ ψ w', φ.le ψ ∧ Rel P W K J ψ h' w' ∧ match an with
    | .val v => ∃ v', (r = .ok (.value v') w' ∨ (r = .ok .skip w' ∧ v' = undef)) ∧ VR ψ v v'
    | .call f args => ∃ args' : Array Value, r = .ok (.enter f args') w' ∧ VRs ψ args args'.toList

section
variable {P : Program} {W : World} {K : Nat} {J : Nat → Option Obj} {φ : Map} {h h' : AHeap} {w : World}

theorem Met.value {v v' : Value} {r : Result Next} (R : Rel P W K J φ h w) (hr : r = .ok (.value v') w) (hv : VR φ v v') : Met P W K J φ (.val v) h r :=
  ⟨φ, w, φ.le_refl, R, v', .inl hr, hv⟩

theorem run_v {s : Sem Value} {v : Value} {w w' : World} (h : s.run P w = .ok v w') : (do pure (Next.value (← s)) : Sem Next).run P w = .ok (.value v) w' := by
  simp [h]
theorem run_u {s : Sem Unit} {w w' : World} (h : s.run P w = .ok () w') : (do s; pure Next.skip : Sem Next).run P w = .ok .skip w' := by
  simp [h]

theorem run_underlying {t : TypeId} {d : TypeDesc} (w : World) (h : P.underlying t = some d) : (underlying t).run P w = .ok d w := by simp [underlying, h]
theorem run_typeInfo {t : TypeId} {i : TypeInfo} (w : World) (h : P.info? t = some i) : (typeInfo t).run P w = .ok i w := by simp [typeInfo, h]
theorem run_sizeOf {t : TypeId} {i : TypeInfo} (w : World) (h : P.info? t = some i) : (sizeOf t).run P w = .ok i.size w := by simp [sizeOf, run_typeInfo w h]
theorem run_zeroValue {t : TypeId} {i : TypeInfo} {z : Value} (w : World) (h : P.info? t = some i) (hz : i.zero = some z) : (zeroValue t).run P w = .ok z w := by simp [zeroValue, run_typeInfo w h, hz]

def isAggB : TypeDesc → Bool
  | .struct _ | .array _ _ => true
  | _ => false
theorem run_isAgg {t : TypeId} {d : TypeDesc} (w : World) (h : P.underlying t = some d) : (isAgg t).run P w = .ok (isAggB d) w := by
  simp only [isAgg, Sem.run_bind, run_underlying w h, Result.andThen_ok]
  cases d <;> rfl

/-! Reading and writing variables. -/
def aload (P : Program) (t : TypeId) (a : Addr) (h : AHeap) : Option Value :=
  match P.underlying t with
  | none => none
  | some d => if isAggB d = true then
      match P.info? t with
      | none => none
      | some i => match h.row? a i.size with
        | none => none
        | some l => some (.agg l.toArray)
    else h.cell? a
theorem aload_ok {t : TypeId} {a : Addr} {v : Value} {x : At} (R : Rel P W K J φ h w) (e : aload P t a h = some v) (hx : φ a.block = some x) :
    ∃ v', (loadVar t ⟨x.b, a.off + x.d, none⟩).run P w = .ok v' w ∧ VR φ v v' := by
  unfold aload at e
  split at e
  · cases e
  · rename_i d hd
    split at e
    · rename_i ha
      split at e
      · cases e
      · rename_i i hi
        split at e
        · cases e
        · rename_i l hl
          cases e
          obtain ⟨l', h1, h2, _⟩ := R.row hl hx
          refine ⟨.agg l'.toArray, ?_, .of_aggs (by simpa using h2)⟩
          simp [loadVar, run_isAgg w hd, ha, run_sizeOf w hi, h1]
    · rename_i ha
      obtain ⟨_, v', h1, h2⟩ := R.cell e hx
      refine ⟨v', ?_, h2⟩
      simp [loadVar, run_isAgg w hd, ha, h1]

def astore (P : Program) (t : TypeId) (a : Addr) (v : Value) (h : AHeap) : Option AHeap :=
  match P.info? t with
  | none => none
  | some i => if v.cells.size = i.size then h.store a v.cells.toList else none
theorem astore_ok {t : TypeId} {a : Addr} {v v' : Value} {x : At} (R : Rel P W K J φ h w) (e : astore P t a v h = some h') (hx : φ a.block = some x) (hv : VR φ v v') :
    ∃ w', (storeVar t ⟨x.b, a.off + x.d, none⟩ v').run P w = .ok () w' ∧ Rel P W K J φ h' w' := by
  unfold astore at e
  split at e
  · cases e
  · rename_i i hi
    split at e
    · rename_i hs
      obtain ⟨w', h1, h2⟩ := R.store e hx hv.cells
      refine ⟨w', ?_, h2⟩
      have hsz : v'.cells.size = i.size := by
        have := hv.cells.length
        simp only [Array.length_toList] at this
        omega
      simp [storeVar, run_sizeOf w hi, hsz, h1]
    · cases e

/-- A new variable. -/
def anew (t : TypeId) (v : Value) (h : AHeap) : Value × AHeap :=
  (.pointer (some ⟨h.next, 0, none⟩), h.new (.cells (PT.ofList v.cells.toList) v.cells.size t))
theorem anew_ok {t : TypeId} {v v' : Value} (R : Rel P W K J φ h w) (hv : VR φ v v') :
    ∃ ψ w' a, φ.le ψ ∧ (newVar t v').run P w = .ok a w' ∧ Rel P W K J ψ (anew t v h).2 w' ∧ VR ψ (anew t v h).1 (.pointer (some a)) := by
  obtain ⟨ψ, h1, h2, h3, h4⟩ := R.newRow hv.cells t 0 #[] false (fun h => by cases h)
  refine ⟨ψ, _, ⟨w.heap.size, 0, none⟩, h1, ?_, h4, ?_⟩
  · have e : v'.cells.toList.toArray ++ #[] = v'.cells := by simp
    rw [e] at h3 ⊢
    exact h3
  · exact .ptr (a := ⟨h.next, 0, none⟩) h2 rfl
end
end Go.Ab
namespace Go.Ab
open Go.RowKit
set_option linter.unusedVariables false
set_option linter.unusedSectionVars false

section
variable [Sg] {P : Program} {W : World} {K : Nat} {J : Nat → Option Obj} {φ : Map} {h h' : AHeap} {w : World}

/-! ### build, buildSlice -/
theorem fold_set (off : Nat) : ∀ (l l' : List Value) (j : Nat) (c c' : Array Value), VRs φ l l' → VRs φ c.toList c'.toList →
    VRs φ ((l.zipIdx j).foldl (fun cs (x : Value × Nat) => cs.setIfInBounds (off + x.2) x.1) c).toList ((l'.zipIdx j).foldl (fun cs (x : Value × Nat) => cs.setIfInBounds (off + x.2) x.1) c').toList := by
  intro l l' j c c' hl
  induction hl generalizing j c c' with
  | nil => intro h; exact h
  | @cons v v' l l' hv _ ih =>
    intro hc
    simp only [List.zipIdx_cons, List.foldl_cons]
    refine ih _ _ _ (VRs.of_get _ _ (by simpa using hc.length) fun i u u' e1 e2 => ?_)
    simp only [Array.getElem?_toList, Array.getElem?_setIfInBounds] at e1 e2
    have hsz : c.size = c'.size := by simpa using hc.length
    by_cases hi : off + j = i
    · rw [if_pos hi] at e1 e2
      split at e1
      · rename_i hlt
        rw [if_pos (by omega)] at e2
        cases e1; cases e2; exact hv
      · cases e1
    · rw [if_neg hi] at e1 e2
      obtain ⟨u'', g1, g2⟩ := hc.get i u (by simpa using e1)
      simp only [Array.getElem?_toList] at g1
      rw [e2] at g1; cases g1; exact g2

theorem fill_ok (place : Nat → Option (Nat × Nat)) : ∀ (parts parts' : List (Nat × Value)) (c c' r : Array Value), parts.map (·.1) = parts'.map (·.1) → VRs φ (parts.map (·.2)) (parts'.map (·.2)) →
    VRs φ c.toList c'.toList → Instr.fill place c parts = some r → ∃ r', Instr.fill place c' parts' = some r' ∧ VRs φ r.toList r'.toList := by
  intro parts
  induction parts with
  | nil =>
    intro parts' c c' r h1 h2 hc e
    cases parts' with
    | nil => simp only [Instr.fill, Option.some.injEq] at e; subst e; exact ⟨c', rfl, hc⟩
    | cons => simp at h1
  | cons p parts ih =>
    intro parts' c c' r h1 h2 hc e
    cases parts' with
    | nil => simp at h1
    | cons p' parts' =>
      obtain ⟨i, v⟩ := p
      obtain ⟨i', v'⟩ := p'
      simp only [List.map_cons, List.cons.injEq] at h1
      obtain ⟨rfl, h1⟩ := h1
      simp only [List.map_cons] at h2
      cases h2 with
      | cons hv h2 =>
        have hcs := hv.cells
        have hcl : v.cells.size = v'.cells.size := by simpa using hcs.length
        have hsz : c.size = c'.size := by simpa using hc.length
        simp only [Instr.fill] at e ⊢
        cases hp : place i with
        | none => rw [hp] at e; cases e
        | some os =>
          obtain ⟨off, size⟩ := os
          rw [hp] at e
          simp only at e ⊢
          rw [← hcl, ← hsz]
          split at e
          · cases e
          · rename_i hb
            rw [if_neg hb]
            refine ih parts' _ _ r h1 h2 ?_ e
            have := fold_set off v.cells.toList v'.cells.toList 0 c c' hcs hc
            simp only [← Array.foldl_toList, Array.toList_zipIdx]
            exact this

def places (P : Program) : List Field → Option (List (Nat × Nat))
  | [] => some []
  | f :: r => match P.info? f.type with
    | none => none
    | some i => match places P r with
      | none => none
      | some l => some ((f.offset, i.size) :: l)
theorem places_run (w : World) : ∀ (fs : List Field) (l : List (Nat × Nat)), places P fs = some l → (fs.mapM fun f => do pure (f.offset, ← sizeOf f.type) : Sem (List (Nat × Nat))).run P w = .ok l w := by
  intro fs
  induction fs with
  | nil => intro l e; simp only [places, Option.some.injEq] at e; subst e; simp
  | cons f r ih =>
    intro l e
    simp only [places] at e
    split at e
    · cases e
    · rename_i i hi
      split at e
      · cases e
      · rename_i l' hl
        cases e
        rw [List.mapM_cons]
        simp only [Sem.run_bind, run_sizeOf w hi, Result.andThen_ok, Sem.run_pure, ih l' hl]

def abuild (P : Program) (t : TypeId) (parts : List (Nat × Value)) : Option Value :=
  match P.info? t with
  | none => none
  | some i => match i.zero with
    | none => none
    | some z => if z.cells.toList.all noAddr = true then
        match P.underlying t with
        | some (.struct fields) => match places P fields.toList with
          | none => none
          | some pl => match Instr.fill (pl[·]?) z.cells parts with
            | none => none
            | some cs => some (.agg cs)
        | some (.array _ elem) => match P.info? elem with
          | none => none
          | some ei => match Instr.fill (fun i => some (i * ei.size, ei.size)) z.cells parts with
            | none => none
            | some cs => some (.agg cs)
        | _ => none
      else none
theorem abuild_ok {t : TypeId} {parts parts' : List (Nat × Value)} {v : Value} (w : World) (e : abuild P t parts = some v) (h1 : parts.map (·.1) = parts'.map (·.1)) (h2 : VRs φ (parts.map (·.2)) (parts'.map (·.2))) :
    ∃ v', (Instr.build t parts'.toArray).run P w = .ok v' w ∧ VR φ v v' := by
  unfold abuild at e
  split at e
  · cases e
  · rename_i i hi
    split at e
    · cases e
    · rename_i z hz
      split at e
      · rename_i hzf
        have hzz : VRs φ z.cells.toList z.cells.toList := VRs.of_flat hzf
        split at e
        · rename_i fields hu
          split at e
          · cases e
          · rename_i pl hpl
            split at e
            · cases e
            · rename_i cs hcs
              cases e
              obtain ⟨r', g1, g2⟩ := fill_ok _ _ _ _ _ _ h1 h2 hzz hcs
              refine ⟨.agg r', ?_, .of_aggs g2⟩
              have hm := places_run w fields.toList pl hpl
              have hm' : (fields.mapM fun f => do pure (f.offset, ← sizeOf f.type) : Sem (Array (Nat × Nat))).run P w = .ok pl.toArray w := by
                rw [show fields = fields.toList.toArray by simp, List.mapM_toArray]
                simp only [Sem.run_map, hm, Result.andThen_ok]
              simp only [Instr.build, Sem.run_bind, run_zeroValue w hi hz, Result.andThen_ok, run_underlying w hu, hm']
              have : (fun x => pl.toArray[x]?) = (fun x : Nat => pl[x]?) := by funext x; simp
              rw [this, g1]
              rfl
        · rename_i n elem hu
          split at e
          · cases e
          · rename_i ei hei
            split at e
            · cases e
            · rename_i cs hcs
              cases e
              obtain ⟨r', g1, g2⟩ := fill_ok _ _ _ _ _ _ h1 h2 hzz hcs
              refine ⟨.agg r', ?_, .of_aggs g2⟩
              simp only [Instr.build, Sem.run_bind, run_zeroValue w hi hz, Result.andThen_ok, run_underlying w hu, run_sizeOf w hei]
              rw [g1]
              rfl
        · cases e
      · cases e

/-- n zeros. -/
def azeros (z : Array Value) (n : Nat) : Array Value := (Array.range n).map (z[· % z.size]!)
theorem azeros_flat {z : Array Value} {n : Nat} (hz : z.toList.all noAddr = true) (h0 : 0 < z.size ∨ n = 0) : (azeros z n).toList.all noAddr = true := by
  rw [List.all_eq_true] at hz ⊢
  intro v hv
  simp only [azeros, Array.toList_map, List.mem_map] at hv
  obtain ⟨i, hi, rfl⟩ := hv
  rcases h0 with h0 | h0
  · have : i % z.size < z.size := Nat.mod_lt _ h0
    rw [getElem!_pos z _ this]
    exact hz _ (by simp)
  · subst h0
    simp at hi

def abuildSlice0 (P : Program) (t : TypeId) (len : Nat) (parts : List (Nat × Value)) (h : AHeap) : Option (Value × AHeap) :=
  match P.underlying t with
  | some (.slice elem) => match P.info? elem with
    | none => none
    | some i => match i.zero with
      | none => none
      | some z => if z.cells.toList.all noAddr = true ∧ 0 < z.cells.size ∧ len * i.size ≤ 2 ^ 24 then
          match Instr.fill (fun k => some (k * i.size, i.size)) (azeros (if len * i.size = 0 then #[] else z.cells) (len * i.size)) parts with
          | none => none
          | some cs => some (.slice (some ⟨h.next, 0, none⟩) len len, h.new (.cells (PT.ofList cs.toList) cs.size elem))
        else none
  | _ => none
theorem abuildSlice0_ok {t : TypeId} {len : Nat} {parts parts' : List (Nat × Value)} {v : Value} (R : Rel P W K J φ h w) (e : abuildSlice0 P t len parts h = some (v, h'))
    (h1 : parts.map (·.1) = parts'.map (·.1)) (h2 : VRs φ (parts.map (·.2)) (parts'.map (·.2))) :
    ∃ ψ w' v', φ.le ψ ∧ (Instr.buildSlice t len parts'.toArray).run P w = .ok v' w' ∧ Rel P W K J ψ h' w' ∧ VR ψ v v' := by
  unfold abuildSlice0 at e
  split at e
  · rename_i elem hu
    split at e
    · cases e
    · rename_i i hi
      split at e
      · cases e
      · rename_i z hz
        split at e
        · rename_i hc
          obtain ⟨c1, c2, c3⟩ := hc
          split at e
          · cases e
          · rename_i cs hcs
            cases e
            have hzz : VRs φ (azeros (if len * i.size = 0 then #[] else z.cells) (len * i.size)).toList (azeros (if len * i.size = 0 then #[] else z.cells) (len * i.size)).toList := by
              refine VRs.of_flat (azeros_flat ?_ ?_)
              · split
                · rfl
                · exact c1
              · by_cases h0 : len * i.size = 0
                · exact .inr h0
                · rw [if_neg h0]; exact .inl c2
            obtain ⟨r', g1, g2⟩ := fill_ok _ _ _ _ _ _ h1 h2 hzz hcs
            obtain ⟨ψ, k1, k2, k3, k4⟩ := R.newRow g2 elem 0 #[] false (fun h => by cases h)
            refine ⟨ψ, _, .slice (some ⟨w.heap.size, 0, none⟩) len len, k1, ?_, by simpa using k4, ?_⟩
            · have e : r'.toList.toArray ++ #[] = r' := by simp
              rw [e] at k3
              simp only [Instr.buildSlice, Sem.run_bind, run_underlying w hu, Result.andThen_ok, run_sizeOf w hi]
              rw [if_neg (by omega)]
              unfold azeros at g1
              split
              · rename_i h0
                rw [if_pos h0] at g1
                simp only [Sem.run_bind, Sem.run_pure, Result.andThen_ok, g1, k3]
              · rename_i h0
                rw [if_neg h0] at g1
                simp only [Sem.run_bind, Sem.run_pure, Result.andThen_ok, run_zeroValue w hi hz, g1, k3]
            · exact .slice (a := ⟨h.next, 0, none⟩) k2 rfl (Nat.le_refl _) (Nat.le_refl _) (.inl rfl) (.inl (by simp))
        · cases e
  · cases e
/-! ### The same, where the parts come one after another -/
theorem setAll_get (off : Nat) : ∀ (l : List Value) (j : Nat) (cs : Array Value), off + j + l.length ≤ cs.size →
    ((l.zipIdx j).foldl (fun (cs : Array Value) (p : Value × Nat) => cs.setIfInBounds (off + p.2) p.1) cs).size = cs.size ∧
    ∀ i, ((l.zipIdx j).foldl (fun (cs : Array Value) (p : Value × Nat) => cs.setIfInBounds (off + p.2) p.1) cs)[i]? = if off + j ≤ i ∧ i < off + j + l.length then l[i - (off + j)]? else cs[i]? := by
  intro l
  induction l with
  | nil => intro j cs h; refine ⟨rfl, fun i => ?_⟩; rw [if_neg (by simp)]; rfl
  | cons v l ih =>
    intro j cs h
    simp only [List.length_cons] at h
    simp only [List.zipIdx_cons, List.foldl_cons]
    obtain ⟨h1, h2⟩ := ih (j + 1) (cs.setIfInBounds (off + j) v) (by simp; omega)
    refine ⟨by rw [h1]; simp, fun i => ?_⟩
    rw [h2, List.length_cons]
    by_cases e1 : off + j = i
    · subst e1
      rw [if_neg (by omega), if_pos (by omega), Array.getElem?_setIfInBounds]
      simp
      omega
    · by_cases e2 : off + (j + 1) ≤ i ∧ i < off + (j + 1) + l.length
      · rw [if_pos e2, if_pos (by omega), show i - (off + j) = (i - (off + (j + 1))) + 1 by omega, List.getElem?_cons_succ]
      · rw [if_neg e2, if_neg (by omega), Array.getElem?_setIfInBounds_ne e1]

def packed (size : Nat) : Nat → List (Nat × Value) → Option (List Value)
  | _, [] => some []
  | k, (i, v) :: r => if i = k ∧ v.cells.size = size then match packed size (k + 1) r with
      | some l => some (v.cells.toList ++ l)
      | none => none
    else none
theorem packed_length {size : Nat} : ∀ (parts : List (Nat × Value)) (k : Nat) (l : List Value), packed size k parts = some l → l.length = parts.length * size := by
  intro parts
  induction parts with
  | nil => intro k l h; simp only [packed, Option.some.injEq] at h; subst h; simp
  | cons p r ih =>
    intro k l h
    obtain ⟨i, v⟩ := p
    simp only [packed] at h
    split at h
    case isFalse => cases h
    rename_i hc
    split at h
    case h_2 => cases h
    rename_i l' hl
    cases h
    simp [ih _ _ hl, hc.2, Nat.add_mul, Nat.add_comm]
theorem fill_packed {size : Nat} : ∀ (parts : List (Nat × Value)) (k : Nat) (c : Array Value) (l : List Value), packed size k parts = some l → (k + parts.length) * size ≤ c.size →
    ∃ r, Instr.fill (fun k => some (k * size, size)) c parts = some r ∧ r.size = c.size ∧ ∀ i, r[i]? = if k * size ≤ i ∧ i < k * size + l.length then l[i - k * size]? else c[i]? := by
  intro parts
  induction parts with
  | nil => intro k c l h hs; simp only [packed, Option.some.injEq] at h; subst h; exact ⟨c, rfl, rfl, fun i => by rw [if_neg (by simp)]⟩
  | cons p r ih =>
    intro k c l h hs
    obtain ⟨i, v⟩ := p
    simp only [packed] at h
    split at h
    case isFalse => cases h
    rename_i hc
    obtain ⟨rfl, hv⟩ := hc
    split at h
    case h_2 => cases h
    rename_i l' hl
    cases h
    have hlen := packed_length _ _ _ hl
    simp only [List.length_cons] at hs
    have hs' : i * size + size + r.length * size ≤ c.size := by
      have : (i + (r.length + 1)) * size = i * size + size + r.length * size := by rw [Nat.add_mul, Nat.add_mul]; omega
      omega
    have hvl : v.cells.toList.length = size := by simpa using hv
    have key := setAll_get (i * size) v.cells.toList 0 c (by omega)
    have hfold : v.cells.zipIdx.foldl (fun (cs : Array Value) (p : Value × Nat) => cs.setIfInBounds (i * size + p.2) p.1) c = (v.cells.toList.zipIdx 0).foldl (fun (cs : Array Value) (p : Value × Nat) => cs.setIfInBounds (i * size + p.2) p.1) c := by
      rw [← Array.foldl_toList, Array.toList_zipIdx]
    rw [← hfold] at key
    obtain ⟨k1, k2⟩ := key
    obtain ⟨r', g1, g2, g3⟩ := ih (i + 1) (v.cells.zipIdx.foldl (fun (cs : Array Value) (p : Value × Nat) => cs.setIfInBounds (i * size + p.2) p.1) c) l' hl (by
      rw [k1]
      have : (i + 1 + r.length) * size = i * size + size + r.length * size := by rw [Nat.add_mul, Nat.add_mul]; omega
      omega)
    refine ⟨r', ?_, by rw [g2, k1], fun n => ?_⟩
    · simp only [Instr.fill]
      rw [if_neg (by simp [hv]; omega)]
      exact g1
    · rw [g3, k2, List.length_append, hvl]
      simp only [Nat.add_zero]
      have e1 : (i + 1) * size = i * size + size := by rw [Nat.add_mul]; omega
      simp only [e1]
      by_cases c1 : i * size + size ≤ n ∧ n < i * size + size + l'.length
      · rw [if_pos c1, if_pos (by omega), List.getElem?_append_right (by omega), hvl, show n - i * size - size = n - (i * size + size) by omega]
      · rw [if_neg c1]
        by_cases c2 : i * size ≤ n ∧ n < i * size + size
        · rw [if_pos c2, if_pos (by omega), List.getElem?_append_left (by omega)]
        · rw [if_neg c2, if_neg (by omega)]

def abuildSlice (P : Program) (t : TypeId) (len : Nat) (parts : List (Nat × Value)) (h : AHeap) : Option (Value × AHeap) :=
  match P.underlying t with
  | some (.slice elem) => match P.info? elem with
    | none => none
    | some i => match i.zero with
      | none => none
      | some z => if z.cells.toList.all noAddr = true ∧ 0 < z.cells.size ∧ len * i.size ≤ 2 ^ 24 then
          match packed i.size 0 parts with
          | some l => if parts.length = len then some (.slice (some ⟨h.next, 0, none⟩) len len, h.new (.cells (PT.ofList l) (len * i.size) elem)) else abuildSlice0 P t len parts h
          | none => abuildSlice0 P t len parts h
        else none
  | _ => none
theorem azeros_size (z : Array Value) (n : Nat) : (azeros z n).size = n := by simp [azeros]
theorem abuildSlice_eq {t : TypeId} {len : Nat} {parts : List (Nat × Value)} {h : AHeap} {r : Value × AHeap} (e : abuildSlice P t len parts h = some r) : abuildSlice0 P t len parts h = some r := by
  unfold abuildSlice at e
  split at e
  case h_2 => cases e
  rename_i elem hu
  split at e
  · cases e
  rename_i i hi
  split at e
  · cases e
  rename_i z hz
  split at e
  case isFalse => cases e
  rename_i hc
  split at e
  case h_2 => exact e
  rename_i l hl
  split at e
  case isFalse => exact e
  rename_i hlen
  cases e
  obtain ⟨r, g1, g2, g3⟩ := fill_packed parts 0 (azeros (if len * i.size = 0 then #[] else z.cells) (len * i.size)) l hl (by rw [azeros_size, hlen, Nat.zero_add]; exact Nat.le_refl _)
  rw [azeros_size] at g2
  have hr : r.toList = l := by
    have hll := packed_length _ _ _ hl
    rw [hlen] at hll
    refine List.ext_getElem? fun n => ?_
    have := g3 n
    rw [Array.getElem?_toList, this, Nat.zero_mul, Nat.zero_add, Nat.sub_zero]
    by_cases c : n < l.length
    · rw [if_pos ⟨Nat.zero_le _, c⟩]
    · rw [if_neg (by omega), List.getElem?_eq_none (by omega), Array.getElem?_eq_none (by rw [azeros_size]; omega)]
  simp only [abuildSlice0, hu, hi, hz]
  rw [if_pos hc, g1]
  simp only [hr, g2]
theorem abuildSlice_ok {t : TypeId} {len : Nat} {parts parts' : List (Nat × Value)} {v : Value} (R : Rel P W K J φ h w) (e : abuildSlice P t len parts h = some (v, h'))
    (h1 : parts.map (·.1) = parts'.map (·.1)) (h2 : VRs φ (parts.map (·.2)) (parts'.map (·.2))) :
    ∃ ψ w' v', φ.le ψ ∧ (Instr.buildSlice t len parts'.toArray).run P w = .ok v' w' ∧ Rel P W K J ψ h' w' ∧ VR ψ v v' :=
  abuildSlice0_ok R (abuildSlice_eq e) h1 h2

end
end Go.Ab
namespace Go.Ab
open Go.RowKit
set_option linter.unusedVariables false
set_option linter.unusedSectionVars false

section
variable [Sg] {P : Program} {W : World} {K : Nat} {J : Nat → Option Obj} {φ : Map} {h h' : AHeap} {w : World}

theorem addr_eq {a : Addr} (h : a.spot = none) (n : Nat) (x : At) : (⟨x.b, a.off + x.d, none⟩ : Addr).add n = ⟨x.b, a.off + n + x.d, none⟩ := by
  rw [addr_add, show a.off + x.d + n = a.off + n + x.d by omega]

/-! ### fieldAddr, indexAddr -/
def afieldAt (P : Program) (s : TypeId) (v : Value) (field : Nat) : Option Value :=
  match v with
  | .pointer (some a) => match P.underlying s with
    | some (.struct fields) => match fields[field]? with
      | none => none
      | some f => match P.info? f.type with
        | none => none
        | some i => if i.size = 0 then none else some (.pointer (some ⟨a.block, a.off + f.offset, none⟩))
    | _ => none
  | _ => none
theorem afieldAt_ok {s : TypeId} {v v' r : Value} {field : Nat} (w : World) (e : afieldAt P s v field = some r) (hv : VR φ v v') :
    ∃ r', (Instr.fieldAt s v' field).run P w = .ok r' w ∧ VR φ r r' := by
  unfold afieldAt at e
  split at e
  · rename_i a
    obtain ⟨x, hx, hs, rfl⟩ := hv.ptr_inv
    split at e
    · rename_i fields hu
      split at e
      · cases e
      · rename_i f hf
        split at e
        · cases e
        · rename_i i hi
          split at e
          · cases e
          · rename_i h0
            cases e
            refine ⟨.pointer (some ⟨x.b, a.off + f.offset + x.d, none⟩), ?_, .ptr (a := ⟨a.block, a.off + f.offset, none⟩) hx rfl⟩
            simp only [Instr.fieldAt, Sem.run_bind, run_underlying w hu, Result.andThen_ok, hf]
            simp only [Instr.sureAddr, Sem.run_bind, Sem.run_pure, Result.andThen_ok, fieldPlace, run_sizeOf w hi]
            rw [if_neg h0]
            simp only [Sem.run_pure, Result.andThen_ok, addr_eq hs]
    · cases e
  · cases e

def aindexAt (P : Program) (t : TypeId) (v ix : Value) : Option Value :=
  match ix with
  | .int _ i => match v with
    | .pointer (some a) => match P.underlying t with
      | some (.array len elem) => match P.info? elem with
        | none => none
        | some e => if 0 ≤ i ∧ i < len then some (.pointer (some ⟨a.block, a.off + i.toNat * e.size, none⟩)) else none
      | _ => none
    | .slice (some a) len _ => match P.underlying t with
      | some (.slice elem) => match P.info? elem with
        | none => none
        | some e => if 0 ≤ i ∧ i < len then some (.pointer (some ⟨a.block, a.off + i.toNat * e.size, none⟩)) else none
      | _ => none
    | _ => none
  | _ => none
theorem aindexAt_ok {t : TypeId} {v v' ix r : Value} (w : World) (e : aindexAt P t v ix = some r) (hv : VR φ v v') :
    ∃ r', (Instr.indexAt t v' ix).run P w = .ok r' w ∧ VR φ r r' := by
  unfold aindexAt at e
  split at e
  · rename_i k i
    split at e
    · rename_i a
      obtain ⟨x, hx, hs, rfl⟩ := hv.ptr_inv
      split at e
      · rename_i len elem hu
        split at e
        · cases e
        · rename_i ei hei
          split at e
          · rename_i hb
            cases e
            refine ⟨.pointer (some ⟨x.b, a.off + i.toNat * ei.size + x.d, none⟩), ?_, .ptr (a := ⟨a.block, a.off + i.toNat * ei.size, none⟩) hx rfl⟩
            simp [Instr.indexAt, asIntOf, run_underlying w hu, Instr.sureAddr, hb, run_sizeOf w hei, addr_eq hs]
          · cases e
      · cases e
    · rename_i a len cap
      obtain ⟨x, cap', o, hx, hs, hl1, hl2, _, ho, rfl⟩ := hv.slice_inv
      split at e
      · rename_i elem hu
        split at e
        · cases e
        · rename_i ei hei
          split at e
          · rename_i hb
            cases e
            have ho : o = a.off + x.d := ho.resolve_right (by omega)
            subst ho
            refine ⟨.pointer (some ⟨x.b, a.off + i.toNat * ei.size + x.d, none⟩), ?_, .ptr (a := ⟨a.block, a.off + i.toNat * ei.size, none⟩) hx rfl⟩
            simp [Instr.indexAt, asIntOf, run_underlying w hu, hb, run_sizeOf w hei, addr_eq hs]
          · cases e
      · cases e
    · cases e
  · cases e

/-! ### field, index, extract: parts of values -/
def apart (P : Program) (t : TypeId) (cs : Array Value) (off : Nat) : Option Value :=
  match P.underlying t with
  | none => none
  | some d => if isAggB d = true then
      match P.info? t with
      | none => none
      | some i => some (.agg (cs.extract off (off + i.size)))
    else cs[off]?
theorem apart_ok {t : TypeId} {cs cs' : Array Value} {off : Nat} {r : Value} (w : World) (e : apart P t cs off = some r) (hc : VRs φ cs.toList cs'.toList) :
    ∃ r', (part t cs' off).run P w = .ok r' w ∧ VR φ r r' := by
  unfold apart at e
  split at e
  · cases e
  · rename_i d hd
    split at e
    · rename_i ha
      split at e
      · cases e
      · rename_i i hi
        cases e
        refine ⟨.agg (cs'.extract off (off + i.size)), ?_, .of_aggs ?_⟩
        · simp [part, run_isAgg w hd, ha, run_sizeOf w hi]
        · have hsz : cs.size = cs'.size := by simpa using hc.length
          refine VRs.of_get _ _ (by simp [hsz]) fun j v v' e1 e2 => ?_
          simp only [Array.getElem?_toList, Array.getElem?_extract] at e1 e2
          split at e1
          · rw [if_pos (by omega)] at e2
            obtain ⟨u, g1, g2⟩ := hc.get _ _ (by simpa using e1)
            simp only [Array.getElem?_toList] at g1
            rw [g1] at e2; cases e2; exact g2
          · cases e1
    · rename_i ha
      obtain ⟨v', g1, g2⟩ := hc.get _ _ (by simpa using e)
      simp only [Array.getElem?_toList] at g1
      exact ⟨v', by simp [part, run_isAgg w hd, ha, g1], g2⟩

def afield (P : Program) (t : TypeId) (v : Value) (field : Nat) : Option Value :=
  match v with
  | .agg cs => match P.underlying t with
    | some (.struct fields) => match fields[field]? with
      | none => none
      | some f => apart P f.type cs f.offset
    | _ => none
  | _ => none
theorem afield_ok {t : TypeId} {v v' r : Value} {field : Nat} (w : World) (e : afield P t v field = some r) (hv : VR φ v v') :
    ∃ r', (Instr.field t v' field).run P w = .ok r' w ∧ VR φ r r' := by
  unfold afield at e
  split at e
  · rename_i cs
    obtain ⟨cs', rfl, hc⟩ := hv.agg_inv
    split at e
    · rename_i fields hu
      split at e
      · cases e
      · rename_i f hf
        obtain ⟨r', h1, h2⟩ := apart_ok w e hc
        exact ⟨r', by simp [Instr.field, run_underlying w hu, hf, asAgg, h1], h2⟩
    · cases e
  · cases e

def aindex (P : Program) (t : TypeId) (v ix : Value) : Option Value :=
  match ix with
  | .int _ i => match v with
    | .agg cs => match P.underlying t with
      | some (.array len elem) => match P.info? elem with
        | none => none
        | some e => if 0 ≤ i ∧ i < len then apart P elem cs (i.toNat * e.size) else none
      | _ => none
    | .string s => match P.underlying t with
      | some .string => if 0 ≤ i then match s.data[i.toNat]? with
          | none => none
          | some b => some (.int .u8 b.toNat)
        else none
      | _ => none
    | _ => none
  | _ => none
theorem aindex_ok {t : TypeId} {v v' ix r : Value} (w : World) (e : aindex P t v ix = some r) (hv : VR φ v v') :
    ∃ r', (Instr.index t v' ix).run P w = .ok r' w ∧ VR φ r r' := by
  unfold aindex at e
  split at e
  · rename_i k i
    split at e
    · rename_i cs
      obtain ⟨cs', rfl, hc⟩ := hv.agg_inv
      split at e
      · rename_i len elem hu
        split at e
        · cases e
        · rename_i ei hei
          split at e
          · rename_i hb
            obtain ⟨r', h1, h2⟩ := apart_ok w e hc
            exact ⟨r', by simp [Instr.index, asIntOf, run_underlying w hu, hb, run_sizeOf w hei, h1], h2⟩
          · cases e
      · cases e
    · rename_i s
      have := hv.flat_inv rfl
      subst this
      split at e
      · rename_i hu
        split at e
        · rename_i h0
          split at e
          · cases e
          · rename_i b hb
            cases e
            refine ⟨_, ?_, .flat rfl⟩
            have : s[i.toNat]? = some b := by
              rw [← hb]
              rcases Nat.lt_or_ge i.toNat s.size with hl | hl
              · rw [getElem?_pos s _ hl, getElem?_pos s.data _ hl]; rfl
              · rw [getElem?_neg s _ (by omega), getElem?_neg s.data _ (by show ¬ i.toNat < s.data.size; exact Nat.not_lt.2 hl)]
            simp [Instr.index, asIntOf, run_underlying w hu, h0, this]
        · cases e
      · cases e
    · cases e
  · cases e

def aextract (v : Value) (i : Nat) : Option Value :=
  match v with
  | .tuple vs => vs[i]?
  | _ => none
theorem aextract_ok {v v' r : Value} {i : Nat} (w : World) (e : aextract v i = some r) (hv : VR φ v v') : ∃ r', (Instr.extract v' i).run P w = .ok r' w ∧ VR φ r r' := by
  unfold aextract at e
  split at e
  · obtain ⟨vs', rfl, hc⟩ := hv.tuple_inv
    obtain ⟨r', g1, g2⟩ := hc.get _ _ (by simpa using e)
    simp only [Array.getElem?_toList] at g1
    exact ⟨r', by simp [Instr.extract, g1], g2⟩
  · cases e

/-! ### Slicing -/
def optInt : Option Value → Option (Option Int)
  | none => some none
  | some (.int _ i) => some (some i)
  | _ => none
/-- low, high, max of a slice expression, with what it is cut from. -/
def abounds (len cap : Nat) (low high max : Option Value) : Option (Nat × Nat × Nat) :=
  match optInt max with
  | none => none
  | some mx => match (match mx with | none => some cap | some i => if 0 ≤ i ∧ i ≤ cap then some i.toNat else none) with
    | none => none
    | some m => match optInt high with
      | none => none
      | some hi => match (match hi, mx with | some i, _ => (if 0 ≤ i ∧ i ≤ m then some i.toNat else none) | none, none => some len | none, some _ => none) with
        | none => none
        | some h => match optInt low with
          | none => none
          | some lo => match (match lo with | none => some 0 | some i => if 0 ≤ i ∧ i ≤ h then some i.toNat else none) with
            | none => none
            | some l => some (l, h, m)
theorem run_bound {k : IntKind} {i : Int} {y : Nat} (w : World) (code : BoundsCode) (h : 0 ≤ i ∧ i ≤ y) : (Instr.sliceBound (.int k i) y code).run P w = .ok i.toNat w := by
  simp [Instr.sliceBound, asIntOf, h]
/-- What is within an abstract slice's room is within the model's. -/
theorem abounds_ok {len cap cap' : Nat} {low high max : Option Value} {l h m : Nat} (isSlice : Bool) (w : World) (hcap : cap ≤ cap') (hlen : len ≤ cap) (e : abounds len cap low high max = some (l, h, m)) :
    l ≤ h ∧ h ≤ m ∧ m ≤ cap ∧ ∃ m', (Instr.sliceBounds isSlice len cap' low high max).run P w = .ok (l, h, m') w ∧ ((max = none ∧ m = cap ∧ m' = cap') ∨ m' = m) := by
  unfold abounds at e
  split at e
  · cases e
  · rename_i mx hmx
    split at e
    · cases e
    · rename_i m0 hm0
      split at e
      · cases e
      · rename_i hi hhi
        split at e
        · cases e
        · rename_i h0 hh0
          split at e
          · cases e
          · rename_i lo hlo
            split at e
            · cases e
            · rename_i l0 hl0
              cases e
              obtain ⟨m', hm', hmm⟩ : ∃ m', (match (generalizing := false) max with
                  | some v => Instr.sliceBound v cap' (if isSlice then .slice3Acap else .slice3Alen)
                  | none => pure cap' : Sem Nat).run P w = .ok m' w ∧ ((max = none ∧ m = cap ∧ m' = cap' ∧ mx = none) ∨ (m' = m ∧ m ≤ cap ∧ ∃ i, mx = some i)) := by
                cases max with
                | none =>
                  simp only [optInt, Option.some.injEq] at hmx
                  subst hmx
                  simp only [Option.some.injEq] at hm0
                  exact ⟨cap', rfl, .inl ⟨rfl, hm0.symm, rfl, rfl⟩⟩
                | some v =>
                  cases v <;> simp only [optInt, Option.some.injEq] at hmx <;> try (cases hmx; done)
                  subst hmx
                  simp only at hm0
                  split at hm0
                  · rename_i hb
                    cases hm0
                    refine ⟨_, run_bound w _ ⟨hb.1, by omega⟩, .inr ⟨rfl, by omega, _, rfl⟩⟩
                  · cases hm0
              have hmc : m ≤ m' ∧ m ≤ cap := by rcases hmm with ⟨_, h1, h2, _⟩ | ⟨h1, h2, _⟩ <;> omega
              obtain ⟨hh, hhm⟩ : (match (generalizing := false) high, max with
                  | some v, some _ => Instr.sliceBound v m' .slice3B
                  | some v, none => Instr.sliceBound v m' (if isSlice then .sliceAcap else .sliceAlen)
                  | none, none => pure len
                  | none, some _ => stuck "Slice: max without high" : Sem Nat).run P w = .ok h w ∧ h ≤ m := by
                cases high with
                | none =>
                  simp only [optInt, Option.some.injEq] at hhi
                  subst hhi
                  rcases hmm with ⟨k1, k2, k3, k4⟩ | ⟨k1, k2, i, k4⟩
                  · subst k1 k4
                    simp only [Option.some.injEq] at hh0
                    subst hh0
                    exact ⟨rfl, by omega⟩
                  · subst k4
                    simp at hh0
                | some v =>
                  cases v <;> simp only [optInt, Option.some.injEq] at hhi <;> try (cases hhi; done)
                  subst hhi
                  simp only at hh0
                  split at hh0
                  · rename_i hb
                    cases hh0
                    refine ⟨?_, by omega⟩
                    cases max with
                    | none => exact run_bound w _ ⟨hb.1, by omega⟩
                    | some _ => exact run_bound w _ ⟨hb.1, by omega⟩
                  · cases hh0
              obtain ⟨hl, hlh⟩ : (match (generalizing := false) low with
                  | some v => Instr.sliceBound v h (if max.isSome then .slice3C else .sliceB)
                  | none => pure 0 : Sem Nat).run P w = .ok l w ∧ l ≤ h := by
                cases low with
                | none =>
                  simp only [optInt, Option.some.injEq] at hlo
                  subst hlo
                  simp only [Option.some.injEq] at hl0
                  subst hl0
                  exact ⟨rfl, by omega⟩
                | some v =>
                  cases v <;> simp only [optInt, Option.some.injEq] at hlo <;> try (cases hlo; done)
                  subst hlo
                  simp only at hl0
                  split at hl0
                  · rename_i hb
                    cases hl0
                    exact ⟨run_bound w _ hb, by omega⟩
                  · cases hl0
              refine ⟨hlh, hhm, hmc.2, m', ?_, ?_⟩
              · unfold Instr.sliceBounds
                clear hmx hhi hlo hm0 hh0 hl0 hmm hmc
                cases max <;> cases high <;> cases low <;> (try simp only [] at hm' hh hl ⊢) <;> rw [Sem.run_bind, hm', Result.andThen_ok, Sem.run_bind, hh, Result.andThen_ok, Sem.run_bind, hl, Result.andThen_ok] <;> rfl
              · rcases hmm with ⟨k1, k2, k3, _⟩ | ⟨k1, _, _⟩
                · exact .inl ⟨k1, k2, k3⟩
                · exact .inr k1
end
end Go.Ab
namespace Go.Ab
open Go.RowKit
set_option linter.unusedVariables false
set_option linter.unusedSectionVars false

section
variable [Sg] {P : Program} {W : World} {K : Nat} {J : Nat → Option Obj} {φ : Map} {h h' : AHeap} {w : World}

/-! ### Cutting -/
/-- Is what an address lies in a row of such elements? -/
def AHeap.rowOf (h : AHeap) (a : Addr) (elem : TypeId) : Bool :=
  match h.m.get a.block with
  | some (.cells _ _ E) => E == elem
  | _ => false

def asliceAt (P : Program) (t : TypeId) (v : Value) (low high max : Option Value) (h : AHeap) : Option Value :=
  match v with
  | .string s => match P.underlying t, max with
    | some .string, none => match abounds s.size s.size low high none with
      | none => none
      | some (l, h, _) => some (.string (s.extract l h))
    | _, _ => none
  | .slice (some a) len cap => match P.underlying t with
    | some (.slice elem) => match P.info? elem with
      | none => none
      | some e => if len ≤ cap ∧ h.rowOf a elem = true then match abounds len cap low high max with
          | none => none
          | some (l, h, m) => some (.slice (some ⟨a.block, a.off + l * e.size, none⟩) (h - l) (m - l))
        else none
    | _ => none
  | .slice none len cap => match P.underlying t with
    | some (.slice elem) => match P.info? elem with
      | none => none
      | some e => if len ≤ cap then match abounds len cap low high max with
          | none => none
          | some (l, h, m) => some (.slice none (h - l) (m - l))
        else none
    | _ => none
  | .pointer (some a) => match P.underlying t with
    | some (.array n elem) => match P.info? elem with
      | none => none
      | some e => match abounds n n low high max with
        | none => none
        | some (l, h, m) => some (.slice (some ⟨a.block, a.off + l * e.size, none⟩) (h - l) (m - l))
    | _ => none
  | _ => none
theorem asliceAt_ok {t : TypeId} {v v' r : Value} {low high max : Option Value} (R : Rel P W K J φ h w) (e : asliceAt P t v low high max h = some r) (hv : VR φ v v') :
    ∃ r', (Instr.sliceAt t v' low high max).run P w = .ok r' w ∧ VR φ r r' := by
  unfold asliceAt at e
  split at e
  · rename_i s
    have := hv.flat_inv rfl
    subst this
    split at e
    · rename_i hu
      split at e
      · cases e
      · rename_i l h m hb
        cases e
        obtain ⟨h1, h2, h3, m', h4, _⟩ := abounds_ok (P := P) false w (Nat.le_refl _) (Nat.le_refl _) hb
        refine ⟨_, ?_, .flat rfl⟩
        simp only [Instr.sliceAt, Sem.run_bind, run_underlying w hu, Result.andThen_ok, Instr.slice]
        simp only [Option.isSome_none, Bool.false_eq_true, if_false, Sem.run_bind, Sem.run_pure, Result.andThen_ok, h4]
    · cases e
  · rename_i a len cap
    obtain ⟨x, cap', o, hx, hs, hl1, hl2, hg, ho, rfl⟩ := hv.slice_inv
    split at e
    · rename_i elem hu
      split at e
      · cases e
      · rename_i ei hei
        split at e
        case isFalse => cases e
        rename_i hrow
        split at e
        · cases e
        · rename_i l h m hb
          cases e
          obtain ⟨h1, h2, h3, m', h4, h5⟩ := abounds_ok (P := P) true w hl2 hl1 hb
          refine ⟨.slice (some (if m' = l then ⟨x.b, o, none⟩ else (⟨x.b, o, none⟩ : Addr).add (l * ei.size))) (h - l) (m' - l), ?_, ?_⟩
          · simp only [Instr.sliceAt, Sem.run_bind, run_underlying w hu, Result.andThen_ok, Instr.slice, h4, run_sizeOf w hei]
            simp only [Sem.run_pure]
            congr 2
            split <;> rfl
          · have hml : m ≤ m' := by rcases h5 with ⟨_, h5, h6⟩ | h5 <;> omega
            have hoo : (if m' = l then (⟨x.b, o, none⟩ : Addr) else (⟨x.b, o, none⟩ : Addr).add (l * ei.size)) = ⟨x.b, if m' = l then o else o + l * ei.size, none⟩ := by
              split
              · rfl
              · rw [addr_add]
            rw [hoo]
            refine .slice (a := ⟨a.block, a.off + l * ei.size, none⟩) hx rfl (by omega) (by omega) ?_ ?_
            · rcases h5 with ⟨_, h5, h6⟩ | h5
              · rcases hg with hg | ⟨hg, hg2, hg3⟩
                · left; omega
                · right
                  refine ⟨hg, ?_, by omega⟩
                  have hsz : x.es = ei.size := by
                    have hrow := hrow.2
                    unfold AHeap.rowOf at hrow
                    split at hrow
                    · rename_i c n E hE
                      have hE2 : E = elem := by simpa using hrow
                      subst hE2
                      obtain ⟨i, hi, he⟩ := R.es _ x _ _ _ hx hg hE
                      rw [hei] at hi; cases hi; exact he
                    · cases hrow
                  rw [hsz] at hg2 ⊢
                  have : l * ei.size + (m' - l) * ei.size = m' * ei.size := by rw [← Nat.add_mul]; congr 1; omega
                  show a.off + l * ei.size + x.d + (m' - l) * ei.size ≤ x.cs
                  rw [h6] at this ⊢
                  omega
              · left; rw [h5]
            · by_cases hm : m' = l
              · right; omega
              · left
                rw [if_neg hm]
                have : o = a.off + x.d := ho.resolve_right (by rcases h5 with ⟨_, h5, h6⟩ | h5 <;> omega)
                show o + l * ei.size = a.off + l * ei.size + x.d
                omega
    · cases e
  · rename_i len cap
    have := hv.flat_inv rfl
    subst this
    split at e
    · rename_i elem hu
      split at e
      · cases e
      · rename_i ei hei
        split at e
        · rename_i hle
          split at e
          · cases e
          · rename_i l h m hb
            cases e
            obtain ⟨h1, h2, h3, m', h4, h5⟩ := abounds_ok (P := P) true w (Nat.le_refl _) hle hb
            have hmm : m' = m := by rcases h5 with ⟨_, h5, h6⟩ | h5 <;> omega
            subst hmm
            refine ⟨_, ?_, .flat rfl⟩
            simp only [Instr.sliceAt, Sem.run_bind, run_underlying w hu, Result.andThen_ok, Instr.slice, h4, run_sizeOf w hei]
            simp only [Sem.run_pure, Option.map_none, ite_self]
        · cases e
    · cases e
  · rename_i a
    obtain ⟨x, hx, hs, rfl⟩ := hv.ptr_inv
    split at e
    · rename_i n elem hu
      split at e
      · cases e
      · rename_i ei hei
        split at e
        · cases e
        · rename_i l h m hb
          cases e
          obtain ⟨h1, h2, h3, m', h4, h5⟩ := abounds_ok (P := P) false w (Nat.le_refl _) (Nat.le_refl _) hb
          have hmm : m' = m := by rcases h5 with ⟨_, h5, h6⟩ | h5 <;> omega
          subst hmm
          refine ⟨.slice (some (if m' = l then ⟨x.b, a.off + x.d, none⟩ else (⟨x.b, a.off + x.d, none⟩ : Addr).add (l * ei.size))) (h - l) (m' - l), ?_, ?_⟩
          · simp only [Instr.sliceAt, Sem.run_bind, run_underlying w hu, Result.andThen_ok, Instr.sureAddr, Sem.run_pure, h4, run_sizeOf w hei]
          · have hoo : (if m' = l then (⟨x.b, a.off + x.d, none⟩ : Addr) else (⟨x.b, a.off + x.d, none⟩ : Addr).add (l * ei.size)) = ⟨x.b, if m' = l then a.off + x.d else a.off + x.d + l * ei.size, none⟩ := by
              split
              · rfl
              · rw [addr_add]
            rw [hoo]
            refine .slice (a := ⟨a.block, a.off + l * ei.size, none⟩) hx rfl (by omega) (Nat.le_refl _) (.inl rfl) ?_
            by_cases hm : m' = l
            · right; omega
            · left; rw [if_neg hm]; show a.off + x.d + l * ei.size = a.off + l * ei.size + x.d; omega
    · cases e
  · cases e
end
end Go.Ab
namespace Go.Ab
open Go.RowKit
set_option linter.unusedVariables false
set_option linter.unusedSectionVars false

section
variable [Sg] {P : Program} {W : World} {K : Nat} {J : Nat → Option Obj} {φ : Map} {h h' : AHeap} {w : World}

def AHeap.kill (h : AHeap) (B : Nat) : AHeap := if h.ro ≤ B then { h with m := h.m.set B .dead } else h

theorem Rel.kill (R : Rel P W K J φ h w) {B : Nat} {x : At} (hx : φ B = some x) : Rel P W K J φ (h.kill B) w := by
  unfold AHeap.kill
  split
  · refine ⟨R.below, ?_, R.dom, ?_, R.old, R.self, R.ro, R.junk, ?_⟩
    · intro C o hC
      rw [PT.get_set] at hC
      split at hC
      · rename_i hBC; subst hBC; cases hC; exact ⟨x, hx, trivial⟩
      · exact R.obj C o hC
    · intro C D y z o p hC hD l1 l2
      rw [PT.get_set] at hC hD
      split at hC
      · cases hC; cases l1
      · split at hD
        · cases hD; cases l2
        · exact R.inj C D y z o p hC hD l1 l2
    · intro C y c n E e1 e2 e3
      rw [PT.get_set] at e3
      split at e3
      · cases e3
      · exact R.es C y c n E e1 e2 e3
  · exact R

/-- The cells of what is appended, or copied. -/
def srcCells (h : AHeap) (size n : Nat) (v : Value) : Option (List Value) :=
  match v with
  | .slice (some a) _ _ => h.row? a (n * size)
  | .slice none _ _ => if n = 0 then some [] else none
  | _ => none
def sliceLen : Value → Option Nat
  | .slice _ n _ => some n
  | _ => none

theorem firstCells_ok {size n : Nat} {v v' : Value} {l : List Value} (R : Rel P W K J φ h w) (e : srcCells h size n v = some l) (hv : VR φ v v') (hn : ∀ m, sliceLen v = some m → n ≤ m) :
    ∃ l', (Builtin.firstCells size n v').run P w = .ok l'.toArray w ∧ VRs φ l l' ∧ l.length = n * size := by
  unfold srcCells at e
  split at e
  · rename_i a m c
    obtain ⟨x, cap', o, hx, hs, hl1, hl2, _, ho, rfl⟩ := hv.slice_inv
    have hnm := hn m rfl
    obtain ⟨l', h1, h2, h3⟩ := R.row e hx
    refine ⟨l', ?_, h2, h3⟩
    rcases ho with ho | ho
    · subst ho; exact h1
    · have h0 : n = 0 := by omega
      subst h0
      rw [Nat.zero_mul] at h3
      have : l = [] := List.length_eq_zero_iff.1 h3
      subst this
      cases h2
      simp [Builtin.firstCells, loadCells, loadCellsFrom]
  · rename_i m c
    have := hv.flat_inv rfl
    subst this
    split at e
    · rename_i h0
      cases e
      exact ⟨[], rfl, .nil, by simp [h0]⟩
    · cases e
  · cases e

theorem sliceLen_eq {v v' : Value} {n : Nat} (e : sliceLen v = some n) (hv : VR φ v v') (w : World) : (Builtin.lenOf v').run P w = .ok n w := by
  unfold sliceLen at e
  split at e
  · rename_i a m c
    cases e
    cases a with
    | none => have := hv.flat_inv rfl; subst this; rfl
    | some a => obtain ⟨x, cap', o, hx, hs, hl1, hl2, _, ho, rfl⟩ := hv.slice_inv; rfl
  · cases e

/-- A row that is a whole block. -/
def AHeap.whole? (h : AHeap) (a : Addr) (k : Nat) : Option (PT Value) :=
  match h.m.get a.block with
  | some (.cells c n _) => cond (Nat.beq a.off 0 && Nat.beq n k) (some c) none
  | _ => none
theorem whole_spec {h : AHeap} {a : Addr} {k : Nat} {c : PT Value} (e : h.whole? a k = some c) : a.off = 0 ∧ ∃ E, h.m.get a.block = some (.cells c k E) := by
  unfold AHeap.whole? at e
  split at e
  · rename_i c' n E hE
    cases hb : (Nat.beq a.off 0 && Nat.beq n k) with
    | false => rw [hb] at e; cases e
    | true =>
      rw [hb] at e; cases e
      simp only [Bool.and_eq_true] at hb
      have h1 := Nat.eq_of_beq_eq_true hb.1
      have h2 := Nat.eq_of_beq_eq_true hb.2
      subst h2
      exact ⟨h1, E, hE⟩
  · cases e
def _root_.Go.Ab.PT.filt {α : Type} : (Nat → Bool) → PT α → PT α
  | _, .nil => .nil
  | p, .node v l r => .node (if p 0 then v else none) (PT.filt (fun i => p (2 * i + 1)) l) (PT.filt (fun i => p (2 * i + 2)) r)
omit [Sg] in
theorem get_filt {α : Type} : ∀ (t : PT α) (p : Nat → Bool) (i : Nat), (PT.filt p t).get i = if p i then t.get i else none := by
  intro t
  induction t with
  | nil => intro p i; simp [PT.filt]
  | node v l r ih1 ih2 =>
    intro p i
    simp only [PT.filt, PT.get_node]
    by_cases h0 : i = 0
    · subst h0; simp
    · rw [if_neg h0, if_neg h0]
      by_cases h1 : i % 2 = 1
      · rw [if_pos h1, if_pos h1, ih1, show 2 * (i / 2) + 1 = i by omega]
      · rw [if_neg h1, if_neg h1, ih2, show 2 * (i / 2 - 1) + 2 = i by omega]

/-- A block told anew, no more than is known. -/
theorem Rel.recell (R : Rel P W K J φ h w) {B n N : Nat} {c c' : PT Value} {e : TypeId} {x : At} (hB : h.m.get B = some (.cells c n e)) (hx : φ B = some x) (hN : x.d + N ≤ x.cs)
    (hc : ∀ i v, i < N → c'.get i = some v → i < n ∧ c.get i = some v) : Rel P W K J φ { h with m := h.m.set B (.cells c' N e) } w := by
  refine ⟨R.below, ?_, R.dom, ?_, R.old, R.self, R.ro, R.junk, ?_⟩
  · intro D o hD
    rw [PT.get_set] at hD
    split at hD
    · rename_i hBD; subst hBD; cases hD
      obtain ⟨y, hy, C, f, E, k1, k0, k2, k3, k4⟩ := R.obj B _ hB
      rw [hx] at hy; cases hy
      exact ⟨x, hx, C, f, E, k1, k0, k2, hN, fun i v hi hv => by obtain ⟨g1, g2⟩ := hc i v hi hv; exact k4 i v g1 g2⟩
    · exact R.obj D o hD
  · intro D E y z o p hD hE l1 l2 e1 e2 e3
    rw [PT.get_set] at hD hE
    have key : ∀ D o, (if B = D then some (AObj.cells c' N e) else h.m.get D) = some o → o.live = true → ∃ o', h.m.get D = some o' ∧ o'.live = true := by
      intro D o hD l
      split at hD
      · rename_i hBD; subst hBD; exact ⟨_, hB, rfl⟩
      · exact ⟨o, hD, l⟩
    obtain ⟨o', g1, g2⟩ := key D o hD l1
    obtain ⟨p', g3, g4⟩ := key E p hE l2
    exact R.inj D E y z o' p' g1 g3 g2 g4 e1 e2 e3
  · intro D y c2 n2 E e1 e2 e3
    rw [PT.get_set] at e3
    split at e3
    · rename_i hBD; subst hBD; cases e3; exact R.es B y c n e e1 e2 hB
    · exact R.es D y c2 n2 E e1 e2 e3

/-- Cells, read as the model has them. -/
theorem Rel.rowC (R : Rel P W K J φ h w) {a : Addr} {k n : Nat} {c : PT Value} {e : TypeId} {x : At} (hB : h.m.get a.block = some (.cells c n e)) (hx : φ a.block = some x) (hk : a.off + k ≤ n) :
    ∃ l' : List Value, (loadCells ⟨x.b, a.off + x.d, none⟩ k).run P w = .ok l'.toArray w ∧ l'.length = k ∧ ∀ j v, j < k → c.get (a.off + j) = some v → ∃ v', l'[j]? = some v' ∧ VR φ v v' := by
  obtain ⟨y, C, f, E, hy, h1, _, h2, h3, h4⟩ := R.cells hB
  rw [hx] at hy; cases hy
  refine ⟨(List.range k).map fun j => (C[x.d + (a.off + j)]?).getD undef, ?_, by simp, ?_⟩
  · refine loadCells_run P w _ _ k _ (by simp) fun j hj => ?_
    have hlt : x.d + (a.off + j) < C.size := by omega
    rw [cell_of h1, show a.off + x.d + j = x.d + (a.off + j) by omega]
    simp [hj, hlt]
  · intro j v hj hv
    obtain ⟨v', h5, h6⟩ := h4 _ _ (by omega) hv
    exact ⟨v', by simp [hj, h5], h6⟩

/-- May a row grow to so many? -/
def growOk (need bytes : Nat) : Bool := decide ((2 * need + 1024) * bytes ≤ 2 ^ 48 ∧ need < 2 ^ 62)

def aappend (P : Program) (st : TypeId) (s x : Value) (h : AHeap) : Option (Value × AHeap) :=
  match P.underlying st with
  | some (.slice elem) => match P.info? elem with
    | none => none
    | some ei => match ei.zero with
      | none => none
      | some z => match sliceLen x with
        | none => none
        | some n => match srcCells h ei.size n x with
          | none => none
          | some new => match s with
            | .slice none len cap => if len = 0 ∧ cap = 0 then
                if n = 0 then some (.slice none 0 0, h)
                else if growOk n ei.bytes = true ∧ z.cells.size = ei.size then
                  some (.slice (some ⟨h.next, 0, none⟩) n n, h.new (.cells (PT.ofList new) (n * ei.size) elem))
                else none
              else none
            | .slice (some a) len cap => if len + n ≤ cap then
                match h.store ⟨a.block, a.off + len * ei.size, none⟩ new with
                | none => none
                | some h1 => some (.slice (some a) (len + n) cap, h1)
              else if growOk (len + n) ei.bytes = true ∧ z.cells.size = ei.size ∧ h.rowOf a elem = true ∧ new.all Value.oneCell' = true ∧ h.ro ≤ a.block then
                match h.whole? a (len * ei.size) with
                | some c => some (.slice (some ⟨h.next, 0, none⟩) (len + n) (len + n), (h.kill a.block).new (.cells (c.put (len * ei.size) new) ((len + n) * ei.size) elem))
                | none => match h.row? a (len * ei.size) with
                | none => none
                | some old => some (.slice (some ⟨h.next, 0, none⟩) (len + n) (len + n), (h.kill a.block).new (.cells (PT.ofList (old ++ new)) ((len + n) * ei.size) elem))
              else none
            | _ => none
  | _ => none

theorem growBy_le (need : Nat) : ∀ (r c : Nat), c ≤ 2 * need + 768 → Builtin.growBy need r c ≤ 2 * need + 768 := by
  intro r
  induction r with
  | zero => intro c h; exact h
  | succ r ih =>
    intro c h
    simp only [Builtin.growBy]
    split
    · exact h
    · exact ih _ (by omega)
theorem nextslicecap_le (need cap : Nat) (h : cap ≤ need) : Builtin.nextslicecap need cap ≤ 2 * need + 1024 := by
  unfold Builtin.nextslicecap
  split
  · omega
  · split
    · omega
    · exact Nat.le_trans (growBy_le need 4 cap (by omega)) (by omega)

/-- What the model's append does where there is no room. -/
theorem append_grows {st xt elem ex : TypeId} {ei : TypeInfo} {z : Value} {ty : TypeId} {base : Option Addr} {len cap n : Nat} {x : Value} {old new : List Value} (w : World)
    (hxt : P.underlying xt = some (.slice ex)) (hu : P.underlying st = some (.slice elem)) (hi : P.info? elem = some ei) (hz : ei.zero = some z)
    (hn : (Builtin.lenOf x).run P w = .ok n w) (hgrow : cap < len + n) (hok : growOk (len + n) ei.bytes = true)
    (hold : (Builtin.firstCells ei.size len (.slice base len cap)).run P w.drew = .ok old.toArray w.drew) (hnew : (Builtin.firstCells ei.size n x).run P w.drew = .ok new.toArray w.drew) :
    ∃ c, len + n ≤ c ∧ c < 2 ^ 63 ∧ (Builtin.append_ #[st, xt] ty #[.slice base len cap, x]).run P w =
      .ok (.slice (some ⟨w.heap.size, 0, none⟩) (len + n) c) (w.drew.alloc (.cells ((old ++ new).toArray ++ Builtin.zeroCells z.cells (c - (len + n))) elem)) := by
  simp only [growOk, decide_eq_true_eq] at hok
  obtain ⟨hb, hlt⟩ := hok
  let q : Question := .appendCap (len + n) cap elem
  refine ⟨q.cut (w.tape w.drawn q), by simp [q, Question.cut], ?_, ?_⟩
  · have := Nat.mod_lt (w.tape w.drawn q) (show 0 < 2 ^ 63 - (len + n) by omega)
    show len + n + w.tape w.drawn q % (2 ^ 63 - (len + n)) < 2 ^ 63
    omega
  have hcapbytes : ¬ (Builtin.nextslicecap (len + n) cap * ei.bytes > 2 ^ 48) := by
    have h1 := nextslicecap_le (len + n) cap (by omega)
    have h2 := Nat.mul_le_mul_right ei.bytes h1
    omega
  have hmax : ¬ (((len + n : Nat) : Int) > IntKind.i64.max) := by
    have : IntKind.i64.max = 9223372036854775807 := by decide
    omega
  have hq : q.forced = false := rfl
  have hch : (choose q).run P w = .ok (q.cut (w.tape w.drawn q)) w.drew := by
    rw [run_choose, hq]; rfl
  unfold Builtin.append_
  simp only [List.getElem?_toArray, List.getElem?_cons_zero, List.getElem?_cons_succ, Sem.run_bind, run_underlying w hu, run_underlying w hxt, Result.andThen_ok, run_sizeOf w hi, Sem.run_pure, Bool.false_eq_true, if_false, hn]
  rw [if_neg (by omega)]
  simp only [run_typeInfo w hi, Sem.run_bind, Result.andThen_ok, hmax, false_and, if_false, hcapbytes]
  show (((choose q).run P w).andThen _) = _
  rw [hch]
  simp only [Result.andThen_ok, run_typeInfo w.drew hi, run_askRoom, hold, Bool.not_false, if_true, hnew, run_zeroValue w.drew hi hz, Sem.run_bind, Go.newRow, run_newObj, Sem.run_pure]
  simp [World.alloc]

theorem append_fits {st xt elem ex : TypeId} {ei : TypeInfo} {ty : TypeId} {base : Option Addr} {len cap n : Nat} {x : Value} {new : List Value} (w w' : World)
    (hxt : P.underlying xt = some (.slice ex)) (hu : P.underlying st = some (.slice elem)) (hi : P.info? elem = some ei)
    (hn : (Builtin.lenOf x).run P w = .ok n w) (hfit : len + n ≤ cap) (hnew : (Builtin.firstCells ei.size n x).run P w = .ok new.toArray w)
    (hst : match base with | some a => (storeCells (a.add (len * ei.size)) new).run P w = .ok () w' | none => w' = w) :
    (Builtin.append_ #[st, xt] ty #[.slice base len cap, x]).run P w = .ok (.slice base (len + n) cap) w' := by
  unfold Builtin.append_
  simp only [List.getElem?_toArray, List.getElem?_cons_zero, List.getElem?_cons_succ, Sem.run_bind, run_underlying w hu, run_underlying w hxt, Result.andThen_ok, run_sizeOf w hi, Sem.run_pure, Bool.false_eq_true, if_false, hn]
  rw [if_pos hfit]
  simp only [Bool.not_false, if_true, Sem.run_bind, hnew, Result.andThen_ok]
  cases base with
  | none => simp only at hst; subst hst; rfl
  | some a => simp only at hst; simp only [Sem.run_bind, hst, Result.andThen_ok, Sem.run_pure]

theorem put_append : ∀ (l m : List Value) (t : PT Value) (i : Nat), t.put i (l ++ m) = (t.put i l).put (i + l.length) m := by
  intro l
  induction l with
  | nil => intro m t i; rfl
  | cons v l ih => intro m t i; simp only [List.cons_append, PT.put, List.length_cons]; rw [ih, show i + 1 + l.length = i + (l.length + 1) by omega]
theorem ofList_append (l m : List Value) : PT.ofList (l ++ m) = (PT.ofList l).put l.length m := by
  unfold PT.ofList
  rw [put_append, Nat.zero_add]

/-- A slice that has grown in its own place: its old block is dead, a new one lies there. -/
theorem Rel.shiftG (R : Rel P W K J φ h w) {a : Addr} {x : At} {n N : Nat} {c t : PT Value} {elem : TypeId} (hro : h.ro ≤ a.block) (hx : φ a.block = some x) (hg : x.grow = true) (hB : h.m.get a.block = some (.cells c n elem))
    (ht : ∀ i v, i < N → t.get i = some v → a.off + i < n ∧ c.get (a.off + i) = some v) (hN : a.off + x.d + N ≤ x.cs) :
    ∃ ψ, φ.le ψ ∧ ψ h.next = some ⟨x.b, a.off + x.d, x.es, x.cs, true⟩ ∧ Rel P W K J ψ ((h.kill a.block).new (.cells t N elem)) w := by
  have hkill : h.kill a.block = { h with m := h.m.set a.block .dead } := by unfold AHeap.kill; rw [if_pos hro]
  obtain ⟨y, C, f, E, hy, g1, g0, g2, g3, g4⟩ := R.cells hB
  obtain ⟨rfl, hE0⟩ := g0 hro
  rw [hE0] at g1
  clear g0 hE0
  rw [hx] at hy; cases hy
  have hnx : a.block < h.next := R.dom _ _ hx
  let z : At := ⟨x.b, a.off + x.d, x.es, x.cs, true⟩
  let ψ : Map := fun B => if B = h.next then some z else φ B
  have hle : φ.le ψ := fun B y e => by
    have := R.dom B y e
    show (if B = h.next then some z else φ B) = some y
    rw [if_neg (by omega)]; exact e
  have hinv : ∀ B y, ψ B = some y → (B = h.next ∧ y = z) ∨ (B ≠ h.next ∧ φ B = some y) := by
    intro B y e
    have e : (if B = h.next then some z else φ B) = some y := e
    split at e
    · rename_i hB; cases e; exact .inl ⟨hB, rfl⟩
    · rename_i hB; exact .inr ⟨hB, e⟩
  have hself : ψ h.next = some z := if_pos rfl
  refine ⟨ψ, hle, hself, ?_⟩
  rw [hkill]
  have hget : ∀ D o, ((({ h with m := h.m.set a.block .dead } : AHeap).new (.cells (t) N elem)).m.get D = some o) →
      (D = h.next ∧ o = .cells (t) N elem) ∨ (D ≠ h.next ∧ D = a.block ∧ o = .dead) ∨ (D ≠ h.next ∧ D ≠ a.block ∧ h.m.get D = some o) := by
    intro D o hD
    simp only [AHeap.new, PT.get_set] at hD
    by_cases h1 : h.next = D
    · rw [if_pos h1] at hD; cases hD; exact .inl ⟨h1.symm, rfl⟩
    · rw [if_neg h1] at hD
      by_cases h2 : a.block = D
      · rw [if_pos h2] at hD; cases hD; exact .inr (.inl ⟨fun e => h1 e.symm, h2.symm, rfl⟩)
      · rw [if_neg h2] at hD; exact .inr (.inr ⟨fun e => h1 e.symm, fun e => h2 e.symm, hD⟩)
  refine ⟨R.below, ?_, ?_, ?_, ?_, ?_, ?_, ?_, ?_⟩
  · intro D o hD
    rcases hget D o hD with ⟨rfl, rfl⟩ | ⟨_, rfl, rfl⟩ | ⟨h1, _, hD⟩
    · refine ⟨z, hself, C, (0, 0), _, g1, fun _ => ⟨rfl, rfl⟩, g2, hN, fun i v hi hv => ?_⟩
      obtain ⟨q1, q2⟩ := ht i v hi hv
      obtain ⟨v', h5, h6⟩ := g4 _ _ q1 q2
      exact ⟨v', by rw [show a.off + x.d + i = x.d + (a.off + i) by omega]; exact h5, h6.mono hle⟩
    · exact ⟨x, hle _ _ hx, trivial⟩
    · obtain ⟨y, hy, hobj⟩ := R.obj D o hD
      refine ⟨y, hle _ _ hy, ?_⟩
      cases o with
      | dead => trivial
      | map es clock => obtain ⟨es', k1, k2⟩ := hobj; exact ⟨es', k1, k2.mono hle⟩
      | cells c n e =>
        obtain ⟨C, f, E, k1, k0, k2, k3, k4⟩ := hobj
        exact ⟨C, f, E, k1, k0, k2, k3, fun i v hi hv => by obtain ⟨v', h5, h6⟩ := k4 i v hi hv; exact ⟨v', h5, h6.mono hle⟩⟩
  · intro B y e
    show B < h.next + 1
    rcases hinv B y e with ⟨h1, _⟩ | ⟨_, h1⟩
    · omega
    · have := R.dom B y h1; omega
  · intro D E y u o p hD hE l1 l2 e1 e2 e3
    rcases hget D o hD with ⟨d1, rfl⟩ | ⟨_, _, rfl⟩ | ⟨d1, d2, hD⟩
    · rcases hget E p hE with ⟨d3, rfl⟩ | ⟨_, _, rfl⟩ | ⟨d3, d4, hE⟩
      · rw [d1, d3]
      · cases l2
      · exfalso
        rcases hinv D y e1 with ⟨_, h2⟩ | ⟨h1, _⟩
        · rcases hinv E u e2 with ⟨h3, _⟩ | ⟨_, h4⟩
          · exact d3 h3
          · subst h2
            exact d4 (R.inj E a.block u x p _ hE hB l2 rfl h4 hx e3.symm)
        · exact h1 d1
    · cases l1
    · rcases hget E p hE with ⟨d3, rfl⟩ | ⟨_, _, rfl⟩ | ⟨d3, d4, hE⟩
      · exfalso
        rcases hinv E u e2 with ⟨_, h2⟩ | ⟨h1, _⟩
        · rcases hinv D y e1 with ⟨h3, _⟩ | ⟨_, h4⟩
          · exact d1 h3
          · subst h2
            exact d2 (R.inj D a.block y x o _ hD hB l1 rfl h4 hx e3)
        · exact h1 d3
      · cases l2
      · rcases hinv D y e1 with ⟨h1, _⟩ | ⟨_, h1⟩
        · exact absurd h1 d1
        · rcases hinv E u e2 with ⟨h2, _⟩ | ⟨_, h2⟩
          · exact absurd h2 d3
          · exact R.inj D E y u o p hD hE l1 l2 h1 h2 e3
  · intro B y e1 e2
    rcases hinv B y e1 with ⟨h1, h2⟩ | ⟨h1, h2⟩
    · rw [h2]; show W.heap.size ≤ x.b; exact R.old _ x hx hro
    · exact R.old B y h2 e2
  · intro B hB
    obtain ⟨cs, es, e⟩ := R.self B hB
    exact ⟨cs, es, hle _ _ e⟩
  · show h.ro ≤ h.next + 1
    have := R.ro; omega
  · intro b O hb
    obtain ⟨j1, j2⟩ := R.junk b O hb
    refine ⟨j1, fun B y e hroB => ?_⟩
    rcases hinv B y e with ⟨h1, h2⟩ | ⟨h1, h2⟩
    · rw [h2]; show x.b ≠ b; exact j2 _ x hx hro
    · exact j2 B y h2 hroB
  · intro B y c' n' E e1 e2 e3
    rcases hget B _ e3 with ⟨d1, d2⟩ | ⟨_, _, d2⟩ | ⟨d1, d2, hD⟩
    · cases d2
      rcases hinv B y e1 with ⟨_, h2⟩ | ⟨h1, _⟩
      · subst h2; exact R.es _ x _ _ _ hx hg hB
      · exact absurd d1 h1
    · cases d2
    · rcases hinv B y e1 with ⟨h1, _⟩ | ⟨_, h1⟩
      · exact absurd h1 d1
      · exact R.es B y _ _ _ h1 e2 hD

theorem Rel.shift (R : Rel P W K J φ h w) {a : Addr} {x : At} {k N : Nat} {old : List Value} {elem : TypeId} (hro : h.ro ≤ a.block) (hx : φ a.block = some x) (hg : x.grow = true) (hrow : h.rowOf a elem = true)
    (ho : h.row? a k = some old) (hk : k ≤ N) (hN : a.off + x.d + N ≤ x.cs) :
    ∃ ψ, φ.le ψ ∧ ψ h.next = some ⟨x.b, a.off + x.d, x.es, x.cs, true⟩ ∧ Rel P W K J ψ ((h.kill a.block).new (.cells (PT.ofList old) N elem)) w := by
  obtain ⟨c, n, hB⟩ : ∃ c n, h.m.get a.block = some (.cells c n elem) := by
    unfold AHeap.rowOf at hrow
    split at hrow
    · rename_i c n E hE
      have : E = elem := by simpa using hrow
      subst this
      exact ⟨c, n, hE⟩
    · cases hrow
  refine R.shiftG hro hx hg hB (fun i v hi hv => ?_) hN
  rw [PT.get_ofList] at hv
  obtain ⟨l', hrun, hl', hlen⟩ := R.row ho hx
  have hik : i < k := by
    rcases Nat.lt_or_ge i k with h | h
    · exact h
    · rw [List.getElem?_eq_none (by omega)] at hv; cases hv
  unfold AHeap.row? at ho
  rw [if_neg (by omega)] at ho
  split at ho
  · cases ho
  · rw [hB] at ho
    simp only at ho
    split at ho
    · obtain ⟨_, hr⟩ := PT.row_spec _ _ _ _ ho
      have := hr i hik
      rw [hv] at this
      exact ⟨by omega, this⟩
    · cases ho

def aappendT (P : Program) (st xt : TypeId) (s x : Value) (h : AHeap) : Option (Value × AHeap) :=
  match P.underlying xt with
  | some (.slice _) => aappend P st s x h
  | _ => none

theorem aappend_ok {st xt ty : TypeId} {s s' x x' v : Value} (R : Rel P W K J φ h w) (e : aappendT P st xt s x h = some (v, h')) (hs : VR φ s s') (hx : VR φ x x') :
    ∃ ψ w' v', φ.le ψ ∧ (Builtin.append_ #[st, xt] ty #[s', x']).run P w = .ok v' w' ∧ Rel P W K J ψ h' w' ∧ VR ψ v v' := by
  unfold aappendT at e
  split at e
  case h_2 => cases e
  rename_i ex hxt
  unfold aappend at e
  split at e
  case h_2 => cases e
  rename_i elem hu
  split at e
  · cases e
  rename_i ei hi
  split at e
  · cases e
  rename_i z hz
  split at e
  · cases e
  rename_i n hn
  split at e
  · cases e
  rename_i new hnew
  have hlen := fun w : World => sliceLen_eq hn hx w (P := P)
  obtain ⟨new', hnrun, hnv, hnl⟩ := firstCells_ok R hnew hx (fun m hm => by rw [hn] at hm; cases hm; exact Nat.le_refl _)
  obtain ⟨new'', hnrun2, hnv2, _⟩ := firstCells_ok R.drew hnew hx (fun m hm => by rw [hn] at hm; cases hm; exact Nat.le_refl _)
  split at e
  · rename_i len cap
    have := hs.flat_inv rfl
    subst this
    split at e
    case isFalse => cases e
    rename_i h0
    obtain ⟨rfl, rfl⟩ := h0
    split at e
    · rename_i hn0
      cases e
      subst hn0
      refine ⟨φ, w, .slice none 0 0, φ.le_refl, ?_, R, .flat rfl⟩
      exact append_fits w w hxt hu hi (hlen w) (by omega) hnrun rfl
    · split at e
      case isFalse => cases e
      rename_i hn0 hok
      cases e
      obtain ⟨c, hc, hc63, hrun⟩ := append_grows (P := P) (ty := ty) (base := none) (len := 0) (cap := 0) (old := []) w hxt hu hi hz (hlen w) (by omega) (by rw [Nat.zero_add]; exact hok.1) (by simp [Builtin.firstCells]) hnrun2
      rw [List.nil_append, Nat.zero_add] at hrun
      rw [Nat.zero_add] at hc
      obtain ⟨ψ, k1, k2, k3, k4⟩ := R.drew.newRow hnv2 elem ei.size (Builtin.zeroCells z.cells (c - n)) true (fun _ => ⟨ei, hi, rfl⟩)
      refine ⟨ψ, _, _, k1, hrun, ?_, ?_⟩
      · rw [hnl] at k4; exact k4
      · refine .slice (a := ⟨h.next, 0, none⟩) k2 rfl (Nat.le_refl _) hc (.inr ⟨rfl, ?_, hc63⟩) (.inl (by simp))
        show 0 + 0 + c * ei.size ≤ new.length + (Builtin.zeroCells z.cells (c - n)).size
        simp only [Builtin.zeroCells, Array.size_map, Array.size_range, hok.2, hnl]
        rw [← Nat.add_mul]
        have : n + (c - n) = c := by omega
        rw [this]; omega
  · rename_i a len cap
    obtain ⟨y, cap', o, hy, hsp, hl1, hl2, hgr, ho, rfl⟩ := hs.slice_inv
    split at e
    · rename_i hfit
      split at e
      · cases e
      rename_i h1 hst
      cases e
      obtain ⟨w', hrun, R'⟩ := R.store hst hy hnv
      refine ⟨φ, w', .slice (some ⟨y.b, o, none⟩) (len + n) cap', φ.le_refl, ?_, R', .slice hy hsp hfit hl2 hgr ho⟩
      refine append_fits w w' hxt hu hi (hlen w) (by omega) hnrun ?_
      simp only [addr_add]
      rcases ho with ho | ho
      · subst ho
        rw [show a.off + y.d + len * ei.size = a.off + len * ei.size + y.d by omega]
        exact hrun
      · have hn0 : n = 0 := by omega
        subst hn0
        rw [Nat.zero_mul] at hnl
        have hnil : new = [] := List.length_eq_zero_iff.1 hnl
        subst hnil
        cases hnv
        simp only [storeCells, Sem.run_pure] at hrun ⊢
        exact hrun
    · rename_i hfit
      split at e
      case isFalse => cases e
      rename_i hok
      obtain ⟨hok1, hok2, hok3, hok4, hok5⟩ := hok
      have hkn : (h.kill a.block).next = h.next := by unfold AHeap.kill; split <;> rfl
      have hkr : (h.kill a.block).ro = h.ro := by unfold AHeap.kill; split <;> rfl
      have hmul2 : (len + n) * ei.size = len * ei.size + n * ei.size := Nat.add_mul _ _ _
      split at e
      · -- the whole block
        rename_i c hwh
        cases e
        obtain ⟨hoff, E, hE⟩ := whole_spec hwh
        have hEe : E = elem := by
          have hrow := hok3
          unfold AHeap.rowOf at hrow
          rw [hE] at hrow
          simpa using hrow
        subst hEe
        obtain ⟨old', holdrun, holdlen, holdc⟩ := R.drew.rowC (k := len * ei.size) hE hy (by omega)
        have hold1 : (Builtin.firstCells ei.size len (.slice (some ⟨y.b, o, none⟩) len cap')).run P w.drew = .ok old'.toArray w.drew := by
          rcases ho with ho | ho
          · subst ho; exact holdrun
          · have h0 : len = 0 := by omega
            subst h0
            rw [Nat.zero_mul] at holdlen
            have : old' = [] := List.length_eq_zero_iff.1 holdlen
            subst this
            simp [Builtin.firstCells, loadCells, loadCellsFrom]
        by_cases hin : len + n ≤ cap'
        · have hcc : cap' ≠ cap := by omega
          obtain ⟨hg, hroom, h63⟩ := hgr.resolve_left hcc
          have ho' : o = a.off + y.d := ho.resolve_right (by omega)
          subst ho'
          have hes : y.es = ei.size := by
            obtain ⟨i, hi', he⟩ := R.es _ y _ _ _ hy hg hE
            rw [hi] at hi'; cases hi'; exact he
          have hmul : (len + n) * ei.size ≤ cap' * ei.size := Nat.mul_le_mul_right _ hin
          rw [hes] at hroom
          obtain ⟨ψ, k1, k2, k3⟩ := R.shiftG (N := (len + n) * ei.size) (t := PT.filt (fun i => decide (i < len * ei.size)) c) hok5 hy hg hE (fun i v hi hv => by
            rw [get_filt] at hv
            split at hv
            · rename_i hlt
              rw [hoff, Nat.zero_add]
              exact ⟨by simpa using hlt, hv⟩
            · cases hv) (by omega)
          have hnv' := hnv.mono k1
          have hro : h.ro ≤ a.block := hok5
          have hvr : VR ψ (.slice (some ⟨h.next, 0, none⟩) (len + n) (len + n)) (.slice (some ⟨y.b, a.off + y.d, none⟩) (len + n) cap') :=
            .slice (a := ⟨h.next, 0, none⟩) (x := ⟨y.b, a.off + y.d, y.es, y.cs, true⟩) k2 rfl (Nat.le_refl _) hin (.inr ⟨rfl, by show 0 + (a.off + y.d) + cap' * y.es ≤ y.cs; rw [hes]; omega, h63⟩) (.inl (by simp))
          by_cases hne : new = []
          · subst hne
            cases hnv
            have hn0 : n * ei.size = 0 := by simpa using hnl.symm
            refine ⟨ψ, w, .slice (some ⟨y.b, a.off + y.d, none⟩) (len + n) cap', k1, ?_, ?_, hvr⟩
            · exact append_fits w w hxt hu hi (hlen w) (by omega) hnrun (by simp [storeCells])
            · refine (k3.recell (B := h.next) (N := (len + n) * ei.size) (c' := c.put (len * ei.size) []) (by simp only [AHeap.new, hkn, PT.get_set_eq]; rfl) k2 (by show a.off + y.d + _ ≤ y.cs; omega) (fun i v hi hv => ?_)).congr (fun B => ?_) rfl rfl
              · refine ⟨hi, ?_⟩
                simp only [PT.put] at hv
                rw [get_filt, if_pos (by simp only [decide_eq_true_eq]; omega)]
                exact hv
              · simp only [AHeap.new, hkn, PT.get_set]
                split <;> rfl
          · have hst : ((h.kill a.block).new (.cells (PT.filt (fun i => decide (i < len * ei.size)) c) ((len + n) * ei.size) E)).store ⟨h.next, len * ei.size, none⟩ new =
                some { (h.kill a.block).new (.cells (PT.filt (fun i => decide (i < len * ei.size)) c) ((len + n) * ei.size) E) with m := ((h.kill a.block).new (.cells (PT.filt (fun i => decide (i < len * ei.size)) c) ((len + n) * ei.size) E)).m.set h.next (.cells ((PT.filt (fun i => decide (i < len * ei.size)) c).put (len * ei.size) new) ((len + n) * ei.size) E) } := by
              unfold AHeap.store
              rw [if_neg (by simpa using hne)]
              simp only [Option.isSome_none, Bool.false_eq_true, if_false, AHeap.new, hkn, PT.get_set_eq, hkr]
              rw [if_pos ⟨R.ro, by rw [hnl]; omega, hok4⟩]
            obtain ⟨w', hrun, R'⟩ := k3.store hst k2 hnv'
            refine ⟨ψ, w', .slice (some ⟨y.b, a.off + y.d, none⟩) (len + n) cap', k1, ?_, (R'.recell (B := h.next) (N := (len + n) * ei.size) (c' := c.put (len * ei.size) new) (by simp only [PT.get_set_eq]; rfl) k2 (by show a.off + y.d + _ ≤ y.cs; omega) (fun i v hi hv => ?_)).congr (fun B => ?_) rfl rfl, hvr⟩
            · refine append_fits w w' hxt hu hi (hlen w) (by omega) hnrun ?_
              simp only [addr_add]
              rw [show a.off + y.d + len * ei.size = len * ei.size + (a.off + y.d) by omega]
              exact hrun
            · refine ⟨hi, ?_⟩
              rw [PT.get_put] at hv ⊢
              split at hv
              · rename_i hc; rw [if_pos hc]; exact hv
              · rename_i hc
                rw [if_neg hc, get_filt, if_pos (by simp only [decide_eq_true_eq]; omega)]
                exact hv
            · simp only [AHeap.new, hkn, PT.get_set]
              split <;> rfl
        · obtain ⟨cc, hc, hc63, hrun⟩ := append_grows (P := P) (ty := ty) (base := some ⟨y.b, o, none⟩) (len := len) (cap := cap') w hxt hu hi hz (hlen w) (by omega) hok1 hold1 hnrun2
          have hR2 := R.drew.kill hy
          obtain ⟨ψ, k1, k2, k3⟩ := hR2.new (o := .cells (c.put (len * ei.size) new) ((len + n) * ei.size) E) (O := .cells ((old' ++ new'').toArray ++ Builtin.zeroCells z.cells (cc - (len + n))) E)
            (x := ⟨w.heap.size, 0, ei.size, (len + n) * ei.size + (Builtin.zeroCells z.cells (cc - (len + n))).size, true⟩) rfl (fun _ c2 n2 E2 hc2 => by cases hc2; exact ⟨ei, hi, rfl⟩) (by
              intro ψ w' hle hw
              have hnl' : new''.length = n * ei.size := by rw [← hnv2.length]; exact hnl
              refine ⟨(old' ++ new'').toArray ++ Builtin.zeroCells z.cells (cc - (len + n)), (0, 0), _, hw, fun _ => ⟨rfl, rfl⟩, by show _ = (len + n) * ei.size + (Builtin.zeroCells z.cells (cc - (len + n))).size; simp only [Array.size_append, List.size_toArray, List.length_append]; omega, by show 0 + (len + n) * ei.size ≤ (len + n) * ei.size + (Builtin.zeroCells z.cells (cc - (len + n))).size; omega, fun i v hi hv => ?_⟩
              rw [PT.get_put] at hv
              have hlt : i < (old' ++ new'').length := by rw [List.length_append]; omega
              split at hv
              · rename_i hc2
                obtain ⟨v', h5, h6⟩ := hnv2.get _ _ hv
                refine ⟨v', ?_, h6.mono hle⟩
                rw [Nat.zero_add, Array.getElem?_append_left (by simpa using hlt)]
                simp only [List.getElem?_toArray]
                rw [List.getElem?_append_right (by omega), holdlen]
                exact h5
              · rename_i hc2
                obtain ⟨v', h5, h6⟩ := holdc i v (by omega) (by rw [hoff, Nat.zero_add]; exact hv)
                refine ⟨v', ?_, h6.mono hle⟩
                rw [Nat.zero_add, Array.getElem?_append_left (by simpa using hlt)]
                simp only [List.getElem?_toArray]
                rw [List.getElem?_append_left (by omega)]
                exact h5)
          rw [hkn] at k2
          refine ⟨ψ, _, _, k1, hrun, k3, ?_⟩
          refine .slice (a := ⟨h.next, 0, none⟩) k2 rfl (Nat.le_refl _) hc (.inr ⟨rfl, ?_, hc63⟩) (.inl (by simp))
          show 0 + 0 + cc * ei.size ≤ (len + n) * ei.size + (Builtin.zeroCells z.cells (cc - (len + n))).size
          simp only [Builtin.zeroCells, Array.size_map, Array.size_range, hok2]
          rw [← Nat.add_mul]
          have : len + n + (cc - (len + n)) = cc := by omega
          rw [this]; omega
      split at e
      · cases e
      rename_i old hold
      cases e
      have hsrc : srcCells h ei.size len (.slice (some a) len cap) = some old := hold
      obtain ⟨old', horun, hov, hol⟩ := firstCells_ok R.drew hsrc (VR.slice hy hsp hl1 hl2 hgr ho) (fun m hm => by cases hm; exact Nat.le_refl _)
      by_cases hin : len + n ≤ cap'
      · -- in its place
        have hcc : cap' ≠ cap := by omega
        obtain ⟨hg, hroom, h63⟩ := hgr.resolve_left hcc
        have ho' : o = a.off + y.d := ho.resolve_right (by omega)
        subst ho'
        have hes : y.es = ei.size := by
          have hrow := hok3
          unfold AHeap.rowOf at hrow
          split at hrow
          · rename_i c n' E hE
            have hE2 : E = elem := by simpa using hrow
            subst hE2
            obtain ⟨i, hi', he⟩ := R.es _ y _ _ _ hy hg hE
            rw [hi] at hi'; cases hi'; exact he
          · cases hrow
        have hmul : (len + n) * ei.size ≤ cap' * ei.size := Nat.mul_le_mul_right _ hin
        have hmul2 : (len + n) * ei.size = len * ei.size + n * ei.size := Nat.add_mul _ _ _
        rw [hes] at hroom
        obtain ⟨ψ, k1, k2, k3⟩ := R.shift (N := (len + n) * ei.size) hok5 hy hg hok3 hold (by omega) (by omega)
        have hnv' := hnv.mono k1
        have hro : h.ro ≤ a.block := hok5
        have hvr : VR ψ (.slice (some ⟨h.next, 0, none⟩) (len + n) (len + n)) (.slice (some ⟨y.b, a.off + y.d, none⟩) (len + n) cap') :=
          .slice (a := ⟨h.next, 0, none⟩) (x := ⟨y.b, a.off + y.d, y.es, y.cs, true⟩) k2 rfl (Nat.le_refl _) hin (.inr ⟨rfl, by show 0 + (a.off + y.d) + cap' * y.es ≤ y.cs; rw [hes]; omega, h63⟩) (.inl (by simp))
        by_cases hne : new = []
        · subst hne
          cases hnv
          refine ⟨ψ, w, .slice (some ⟨y.b, a.off + y.d, none⟩) (len + n) cap', k1, ?_, by simpa using k3, hvr⟩
          exact append_fits w w hxt hu hi (hlen w) (by omega) hnrun (by simp [storeCells])
        · have hst : ((h.kill a.block).new (.cells (PT.ofList old) ((len + n) * ei.size) elem)).store ⟨h.next, len * ei.size, none⟩ new =
              some { (h.kill a.block).new (.cells (PT.ofList old) ((len + n) * ei.size) elem) with m := ((h.kill a.block).new (.cells (PT.ofList old) ((len + n) * ei.size) elem)).m.set h.next (.cells ((PT.ofList old).put (len * ei.size) new) ((len + n) * ei.size) elem) } := by
            have hkn : (h.kill a.block).next = h.next := by unfold AHeap.kill; split <;> rfl
            have hkr : (h.kill a.block).ro = h.ro := by unfold AHeap.kill; split <;> rfl
            unfold AHeap.store
            rw [if_neg (by simpa using hne)]
            simp only [Option.isSome_none, Bool.false_eq_true, if_false, AHeap.new, hkn, PT.get_set_eq, hkr]
            rw [if_pos ⟨R.ro, by rw [hnl]; omega, hok4⟩]
          obtain ⟨w', hrun, R'⟩ := k3.store hst k2 hnv'
          refine ⟨ψ, w', .slice (some ⟨y.b, a.off + y.d, none⟩) (len + n) cap', k1, ?_, R'.congr (fun B => ?_) rfl rfl, hvr⟩
          · refine append_fits w w' hxt hu hi (hlen w) (by omega) hnrun ?_
            simp only [addr_add]
            rw [show a.off + y.d + len * ei.size = len * ei.size + (a.off + y.d) by omega]
            exact hrun
          · have hkn : (h.kill a.block).next = h.next := by unfold AHeap.kill; split <;> rfl
            simp only [AHeap.new, hkn, PT.get_set]
            split
            · rw [ofList_append, hol]
            · rfl
      · -- in a new one
        obtain ⟨c, hc, hc63, hrun⟩ := append_grows (P := P) (ty := ty) (base := some ⟨y.b, o, none⟩) (len := len) (cap := cap') w hxt hu hi hz (hlen w) (by omega) hok1 horun hnrun2
        have hov2 := hov.append hnv2
        obtain ⟨ψ, k1, k2, k3, k4⟩ := (R.drew.kill hy).newRow hov2 elem ei.size (Builtin.zeroCells z.cells (c - (len + n))) true (fun _ => ⟨ei, hi, rfl⟩)
        have hkn : (h.kill a.block).next = h.next := by unfold AHeap.kill; split <;> rfl
        have hmul2 : (len + n) * ei.size = len * ei.size + n * ei.size := Nat.add_mul _ _ _
        have hll : (old ++ new).length = (len + n) * ei.size := by rw [List.length_append, hol, hnl, hmul2]
        rw [hkn] at k2
        rw [hll] at k2 k4
        refine ⟨ψ, _, _, k1, hrun, k4, ?_⟩
        refine .slice (a := ⟨h.next, 0, none⟩) k2 rfl (Nat.le_refl _) hc (.inr ⟨rfl, ?_, hc63⟩) (.inl (by simp))
        show 0 + 0 + c * ei.size ≤ (len + n) * ei.size + (Builtin.zeroCells z.cells (c - (len + n))).size
        simp only [Builtin.zeroCells, Array.size_map, Array.size_range, hok2]
        rw [← Nat.add_mul]
        have : len + n + (c - (len + n)) = c := by omega
        rw [this]; omega
  · cases e
end
end Go.Ab
