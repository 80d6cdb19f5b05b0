/- The abstract evaluator in closures: the same outcomes, with less work for the kernel. -/
import Derived.Test.YtcfmeiejfofgpaaGreatDoorAbT
import Derived.Lib.Strings
namespace Go.Ab
open Go.RowKit
set_option linter.unusedVariables false
set_option linter.unusedSectionVars false
set_option linter.unusedSimpArgs false

structure KindC where
  run : IntKind → Bool

noncomputable section

def ob {α β : Type} (x : Option α) (k : α → Option β) : Option β := @Option.rec α (fun _ => Option β) none k x
@[simp] theorem ob_none {α β : Type} (k : α → Option β) : ob none k = none := rfl
@[simp] theorem ob_some {α β : Type} (a : α) (k : α → Option β) : ob (some a) k = k a := rfl
/-- If it is none, something else. -/
def oe {α : Type} (x : Option α) (d : Option α) : Option α := @Option.rec α (fun _ => Option α) d (fun a => some a) x
@[simp] theorem oe_none {α : Type} (d : Option α) : oe none d = d := rfl
@[simp] theorem oe_some {α : Type} (a : α) (d : Option α) : oe (some a) d = some a := rfl

/-! ### Trees -/
def fget {α : Type} (t : PT α) (i : Nat) : Option α :=
  @PT.rec α (fun _ => Nat → Option α) (fun _ => none) (fun v _ _ gl gr i => @Bool.rec (fun _ => Option α) (@Bool.rec (fun _ => Option α) (gr (Nat.sub (Nat.div i 2) 1)) (gl (Nat.div i 2)) (Nat.beq (Nat.mod i 2) 1)) v (Nat.beq i 0)) t i
theorem rec_cond {α : Type} (b : Bool) (x y : α) : @Bool.rec (fun _ => α) y x b = cond b x y := by cases b <;> rfl
theorem fget_eq {α : Type} : ∀ (t : PT α) (i : Nat), fget t i = t.get i := by
  intro t
  induction t with
  | nil => intro i; rfl
  | node v l r ih1 ih2 =>
    intro i
    show @Bool.rec (fun _ => Option α) (@Bool.rec (fun _ => Option α) (fget r (Nat.sub (Nat.div i 2) 1)) (fget l (Nat.div i 2)) (Nat.beq (Nat.mod i 2) 1)) v (Nat.beq i 0) = _
    rw [ih1, ih2, rec_cond, rec_cond]; rfl
theorem setF_fuel {α : Type} : ∀ (k j : Nat) (t : PT α) (i : Nat) (a : α), i < k → i < j → PT.setF k t i a = PT.setF j t i a := by
  intro k
  induction k with
  | zero => intro j t i a h; omega
  | succ k ih =>
    intro j t i a hk hj
    obtain ⟨j, rfl⟩ : ∃ m, j = m + 1 := ⟨j - 1, by omega⟩
    cases t with
    | nil =>
      simp only [PT.setF_nil]
      split
      · rfl
      · split
        · rw [ih j _ _ _ (by omega) (by omega)]
        · rw [ih j _ _ _ (by omega) (by omega)]
    | node v l r =>
      simp only [PT.setF_node]
      split
      · rfl
      · split
        · rw [ih j _ _ _ (by omega) (by omega)]
        · rw [ih j _ _ _ (by omega) (by omega)]
theorem set_nil {α : Type} (i : Nat) (a : α) : (PT.nil : PT α).set i a = if i = 0 then .node (some a) .nil .nil else if i % 2 = 1 then .node none (PT.nil.set (i / 2) a) .nil else .node none .nil (PT.nil.set (i / 2 - 1) a) := by
  unfold PT.set
  rw [PT.setF_nil]
  split
  · rfl
  · split
    · rw [setF_fuel i (i / 2 + 1) _ _ _ (by omega) (by omega)]
    · rw [setF_fuel i (i / 2 - 1 + 1) _ _ _ (by omega) (by omega)]
theorem set_node {α : Type} (v : Option α) (l r : PT α) (i : Nat) (a : α) : (PT.node v l r).set i a = if i = 0 then .node (some a) l r else if i % 2 = 1 then .node v (l.set (i / 2) a) r else .node v l (r.set (i / 2 - 1) a) := by
  unfold PT.set
  rw [PT.setF_node]
  split
  · rfl
  · split
    · rw [setF_fuel i (i / 2 + 1) _ _ _ (by omega) (by omega)]
    · rw [setF_fuel i (i / 2 - 1 + 1) _ _ _ (by omega) (by omega)]
def fset {α : Type} (t : PT α) (i : Nat) (a : α) : PT α :=
  @PT.rec α (fun _ => Nat → PT α) (fun i => PT.nil.set i a) (fun v l r sl sr i => cond (Nat.beq i 0) (.node (some a) l r) (cond (Nat.beq (Nat.mod i 2) 1) (.node v (sl (Nat.div i 2)) r) (.node v l (sr (Nat.sub (Nat.div i 2) 1))))) t i
theorem fset_eq {α : Type} (a : α) : ∀ (t : PT α) (i : Nat), fset t i a = t.set i a := by
  intro t
  induction t with
  | nil => intro i; rfl
  | node v l r ih1 ih2 =>
    intro i
    show cond (Nat.beq i 0) (PT.node (some a) l r) (cond (Nat.beq (Nat.mod i 2) 1) (PT.node v (fset l (Nat.div i 2) a) r) (PT.node v l (fset r (Nat.sub (Nat.div i 2) 1) a))) = _
    rw [ih1, ih2, set_node]
    simp only [PT.cond_beq]
    rfl
/-! ### A frame's slots: three steps of eight -/
structure N8 (α : Type) where
  a : α
  b : α
  c : α
  d : α
  e : α
  f : α
  g : α
  h : α
def N8.sel {α : Type} (n : N8 α) (i : Nat) : α := match i with
  | 0 => n.a
  | 1 => n.b
  | 2 => n.c
  | 3 => n.d
  | 4 => n.e
  | 5 => n.f
  | 6 => n.g
  | _ => n.h
def N8.upd {α : Type} (n : N8 α) (i : Nat) (x : α) : N8 α := match i with
  | 0 => { n with a := x }
  | 1 => { n with b := x }
  | 2 => { n with c := x }
  | 3 => { n with d := x }
  | 4 => { n with e := x }
  | 5 => { n with f := x }
  | 6 => { n with g := x }
  | _ => { n with h := x }
theorem N8.sel_upd {α : Type} (n : N8 α) (i j : Nat) (x : α) (hi : i < 8) (hj : j < 8) : (n.upd i x).sel j = if j = i then x else n.sel j := by
  have h1 : i = 0 ∨ i = 1 ∨ i = 2 ∨ i = 3 ∨ i = 4 ∨ i = 5 ∨ i = 6 ∨ i = 7 := by omega
  have h2 : j = 0 ∨ j = 1 ∨ j = 2 ∨ j = 3 ∨ j = 4 ∨ j = 5 ∨ j = 6 ∨ j = 7 := by omega
  rcases h1 with rfl | rfl | rfl | rfl | rfl | rfl | rfl | rfl <;> rcases h2 with rfl | rfl | rfl | rfl | rfl | rfl | rfl | rfl <;> rfl
structure SelC (α : Type) where
  run : N8 α → α
def selC {α : Type} (i : Nat) : SelC α := match i with
  | 0 => ⟨fun n => n.a⟩
  | 1 => ⟨fun n => n.b⟩
  | 2 => ⟨fun n => n.c⟩
  | 3 => ⟨fun n => n.d⟩
  | 4 => ⟨fun n => n.e⟩
  | 5 => ⟨fun n => n.f⟩
  | 6 => ⟨fun n => n.g⟩
  | _ => ⟨fun n => n.h⟩
theorem selC_eq {α : Type} (i : Nat) (n : N8 α) : (selC i).run n = n.sel i := by unfold selC N8.sel; split <;> rfl
abbrev E1 := N8 (Option Value)
abbrev E2 := N8 E1
abbrev E3 := N8 E2
abbrev OutK := Option (Exit × E3 × AHeap)
/-- One of two. -/
def cd (b : Bool) (x y : OutK) : OutK := @Bool.rec (fun _ => OutK) y x b
theorem cd_eq (b : Bool) (x y : OutK) : cd b x y = cond b x y := by cases b <;> rfl
theorem beq_cd (i j : Nat) (x y : OutK) : cd (Nat.beq i j) x y = if i = j then x else y := by rw [cd_eq, PT.cond_beq]
structure UpdC (α : Type) where
  run : (α → (α → OutK) → OutK) → N8 α → (N8 α → OutK) → OutK
/-- One of eight, turned by what goes on with it. -/
def updC {α : Type} (i : Nat) : UpdC α := match i with
  | 0 => ⟨fun t n k => @N8.rec α (fun _ => OutK) (fun a b c d e f g h => t a (fun y => k (N8.mk y b c d e f g h))) n⟩
  | 1 => ⟨fun t n k => @N8.rec α (fun _ => OutK) (fun a b c d e f g h => t b (fun y => k (N8.mk a y c d e f g h))) n⟩
  | 2 => ⟨fun t n k => @N8.rec α (fun _ => OutK) (fun a b c d e f g h => t c (fun y => k (N8.mk a b y d e f g h))) n⟩
  | 3 => ⟨fun t n k => @N8.rec α (fun _ => OutK) (fun a b c d e f g h => t d (fun y => k (N8.mk a b c y e f g h))) n⟩
  | 4 => ⟨fun t n k => @N8.rec α (fun _ => OutK) (fun a b c d e f g h => t e (fun y => k (N8.mk a b c d y f g h))) n⟩
  | 5 => ⟨fun t n k => @N8.rec α (fun _ => OutK) (fun a b c d e f g h => t f (fun y => k (N8.mk a b c d e y g h))) n⟩
  | 6 => ⟨fun t n k => @N8.rec α (fun _ => OutK) (fun a b c d e f g h => t g (fun y => k (N8.mk a b c d e f y h))) n⟩
  | _ => ⟨fun t n k => @N8.rec α (fun _ => OutK) (fun a b c d e f g h => t h (fun y => k (N8.mk a b c d e f g y))) n⟩
theorem updC_eq {α : Type} (i : Nat) (x : α → α) (n : N8 α) (k : N8 α → OutK) (t : α → (α → OutK) → OutK) (ht : ∀ a k, t a k = k (x a)) : (updC i).run t n k = k (n.upd i (x (n.sel i))) := by
  unfold updC N8.upd N8.sel
  split <;> simp only [ht]

/-- The slots, by their numbers. -/
def lk (e : E3) (i : Nat) : Option Value := ((e.sel (i / 64)).sel (i / 8 % 8)).sel (i % 8)
def lkd (e : E3) (i : Nat) : Option Value := if i < 512 then lk e i else none
def Eq3 (e : E3) (p : PT Value) : Prop := ∀ i, p.get i = lkd e i
def upd3 (e : E3) (i : Nat) (v : Value) : E3 := e.upd (i / 64) ((e.sel (i / 64)).upd (i / 8 % 8) (((e.sel (i / 64)).sel (i / 8 % 8)).upd (i % 8) (some v)))
theorem lk_upd3 (e : E3) (i j : Nat) (v : Value) (hi : i < 512) (hj : j < 512) : lk (upd3 e i v) j = if j = i then some v else lk e j := by
  unfold lk upd3
  rw [N8.sel_upd _ _ _ _ (by omega) (by omega)]
  by_cases h1 : j / 64 = i / 64
  · rw [if_pos h1, N8.sel_upd _ _ _ _ (by omega) (by omega)]
    by_cases h2 : j / 8 % 8 = i / 8 % 8
    · rw [if_pos h2, N8.sel_upd _ _ _ _ (by omega) (by omega)]
      by_cases h3 : j % 8 = i % 8
      · rw [if_pos h3, if_pos (by omega)]
      · rw [if_neg h3, if_neg (by omega), h1, h2]
    · rw [if_neg h2, if_neg (by omega), h1]
  · rw [if_neg h1, if_neg (by omega)]
theorem Eq3.put {e : E3} {p : PT Value} (h : Eq3 e p) {i : Nat} (hi : i < 512) (v : Value) : Eq3 (upd3 e i v) (p.set i v) := by
  intro j
  rw [PT.get_set]
  unfold lkd
  by_cases hj : j < 512
  · rw [if_pos hj, lk_upd3 _ _ _ _ hi hj]
    by_cases hij : i = j
    · subst hij; simp
    · rw [if_neg hij, if_neg (fun e => hij e.symm), h j]; unfold lkd; rw [if_pos hj]
  · rw [if_neg hj, if_neg (by omega), h j]; unfold lkd; rw [if_neg hj]
def none1 : E1 := ⟨none, none, none, none, none, none, none, none⟩
def none2 : E2 := ⟨none1, none1, none1, none1, none1, none1, none1, none1⟩
def none3 : E3 := ⟨none2, none2, none2, none2, none2, none2, none2, none2⟩
theorem sel_same {α : Type} (x : α) (i : Nat) : (N8.mk x x x x x x x x).sel i = x := by unfold N8.sel; split <;> rfl
theorem none3_eq : Eq3 none3 .nil := by
  intro i
  unfold lkd
  split
  · unfold lk none3
    rw [sel_same]; unfold none2; rw [sel_same]; unfold none1; rw [sel_same]; rfl
  · rfl
structure GetK where
  run : E3 → (Value → OutK) → OutK
def getK (i : Nat) : GetK := cond (Nat.blt i 512) ⟨fun e k => @Option.rec Value (fun _ => OutK) none k ((selC (i % 8)).run ((selC (i / 8 % 8)).run ((selC (i / 64)).run e)))⟩ ⟨fun _ _ => none⟩
theorem getK_spec {i : Nat} {e : E3} {k : Value → OutK} {r : Exit × E3 × AHeap} (h : (getK i).run e k = some r) : ∃ v, lkd e i = some v ∧ k v = some r := by
  unfold getK at h
  unfold lkd
  cases hb : Nat.blt i 512 with
  | false => rw [hb] at h; cases h
  | true =>
    rw [hb] at h
    simp only [Nat.blt] at hb
    rw [if_pos (show i < 512 from Nat.le_of_ble_eq_true hb)]
    simp only [cond_true, selC_eq] at h
    unfold lk
    cases hv : ((e.sel (i / 64)).sel (i / 8 % 8)).sel (i % 8) with
    | none => rw [hv] at h; cases h
    | some v => rw [hv] at h; exact ⟨v, rfl, h⟩
structure PutK where
  run : Value → E3 → (E3 → OutK) → OutK
def putK (i : Nat) : PutK := cond (Nat.blt i 512) ⟨fun v e k => (updC (i / 64)).run (fun a k => (updC (i / 8 % 8)).run (fun b k => (updC (i % 8)).run (fun _ k => k (some v)) b k) a k) e k⟩ ⟨fun _ _ _ => none⟩
theorem putK_spec {i : Nat} {e : E3} {v : Value} {k : E3 → OutK} {r : Exit × E3 × AHeap} (h : (putK i).run v e k = some r) : i < 512 ∧ k (upd3 e i v) = some r := by
  unfold putK at h
  cases hb : Nat.blt i 512 with
  | false => rw [hb] at h; cases h
  | true =>
    rw [hb] at h
    simp only [Nat.blt] at hb
    refine ⟨Nat.le_of_ble_eq_true hb, ?_⟩
    simp only [cond_true] at h
    rw [updC_eq (x := fun a => a.upd (i / 8 % 8) ((a.sel (i / 8 % 8)).upd (i % 8) (some v)))] at h
    · exact h
    · intro a k
      rw [updC_eq (x := fun b => b.upd (i % 8) (some v))]
      intro b k
      rw [updC_eq (x := fun _ => some v)]
      intro c k; rfl
/-- A number, made plain. -/
def natK (n : Nat) (k : Nat → OutK) : OutK := @Nat.rec (fun _ => OutK) (k 0) (fun m _ => k (Nat.succ m)) n
theorem natK_eq (n : Nat) (k : Nat → OutK) : natK n k = k n := by cases n <;> rfl
/-- A tree with one place turned, its way made plain. -/
def fsetK {α : Type} (t : PT α) (i : Nat) (a : α) (k : PT α → OutK) : OutK :=
  @PT.rec α (fun _ => Nat → (PT α → OutK) → OutK) (fun i k => k (PT.nil.set i a)) (fun v l r sl sr i k => cd (Nat.beq i 0) (k (.node (some a) l r)) (cd (Nat.beq (Nat.mod i 2) 1) (sl (Nat.div i 2) fun l' => k (.node v l' r)) (sr (Nat.sub (Nat.div i 2) 1) fun r' => k (.node v l r')))) t i k
theorem fsetK_eq {α : Type} (a : α) : ∀ (t : PT α) (i : Nat) (k : PT α → OutK), fsetK t i a k = k (t.set i a) := by
  intro t
  induction t with
  | nil => intro i k; rfl
  | node v l r ih1 ih2 =>
    intro i k
    show cd (Nat.beq i 0) (k (.node (some a) l r)) (cd (Nat.beq (Nat.mod i 2) 1) (fsetK l (Nat.div i 2) a fun l' => k (.node v l' r)) (fsetK r (Nat.sub (Nat.div i 2) 1) a fun r' => k (.node v l r'))) = _
    rw [ih1, ih2, set_node]
    simp only [beq_cd]
    split
    · rfl
    · rw [show Nat.mod i 2 = i % 2 from rfl]
      split <;> rfl

/-- A row, as a tree; built as far as it is looked at. -/
def alt {α : Type} : List α → List α
  | [] => []
  | [a] => [a]
  | a :: _ :: l => a :: alt l
theorem alt_get {α : Type} : ∀ (l : List α) (i : Nat), (alt l)[i]? = l[2 * i]?
  | [], i => by simp [alt]
  | [a], i => by cases i <;> simp [alt]
  | a :: b :: l, 0 => by simp [alt]
  | a :: b :: l, i + 1 => by simp only [alt, List.getElem?_cons_succ]; rw [alt_get l i, show 2 * (i + 1) = 2 * i + 1 + 1 by omega]; simp
def rowT {α : Type} : Nat → List α → PT α
  | 0, _ => .nil
  | k + 1, l => @List.rec α (fun _ => PT α) .nil (fun a r _ => .node (some a) (rowT k (alt r)) (rowT k (alt r.tail))) l
theorem rowT_get {α : Type} : ∀ (k : Nat) (l : List α) (i : Nat), i + 1 < 2 ^ k → (rowT k l).get i = l[i]?
  | 0, l, i, h => by omega
  | k + 1, [], i, h => by simp [rowT]
  | k + 1, a :: r, i, h => by
    show (PT.node (some a) (rowT k (alt r)) (rowT k (alt r.tail))).get i = _
    rw [PT.get_node]
    rw [Nat.pow_succ] at h
    split
    · rename_i h0; subst h0; rfl
    · split
      · rename_i h0 h1
        rw [rowT_get k _ _ (by omega), alt_get]
        obtain ⟨j, rfl⟩ : ∃ j, i = j + 1 := ⟨i - 1, by omega⟩
        rw [List.getElem?_cons_succ]
        congr 1; omega
      · rename_i h0 h1
        rw [rowT_get k _ _ (by omega), alt_get]
        obtain ⟨j, rfl⟩ : ∃ j, i = j + 1 := ⟨i - 1, by omega⟩
        rw [List.getElem?_cons_succ, List.getElem?_tail]
        congr 1; omega
/-- The n-th of a row. -/
def fat {α : Type} (l : List α) (n : Nat) : Option α := cond (Nat.blt n 1000000) (fget (rowT 20 l) n) l[n]?
theorem fat_eq {α : Type} (l : List α) (n : Nat) : fat l n = l[n]? := by
  unfold fat
  cases h : Nat.blt n 1000000 with
  | false => rfl
  | true =>
    simp only [Nat.blt] at h
    have := Nat.le_of_ble_eq_true h
    show fget (rowT 20 l) n = _
    rw [fget_eq, rowT_get 20 l n (by omega)]

/-! ### Forms of values -/
def asNat {β : Type} (v : Value) (D : β) (k : IntKind → Nat → β) : β :=
  @Value.rec (fun _ => β) (fun _ => Unit) (fun _ => Unit) (fun _ => D) (fun kk n => @Int.rec (fun _ => β) (fun m => k kk m) (fun _ => D) n) (fun _ _ => D) (fun _ _ _ => D) (fun _ => D) (fun _ => D) (fun _ _ _ => D) (fun _ => D) (fun _ => D)
    (fun _ _ _ _ _ => D) D (fun _ _ _ => D) D (fun _ _ => D) (fun _ _ => D) (fun _ _ => ()) () (fun _ _ _ _ => ()) v
theorem asNat_cases {β : Type} (v : Value) (D : β) (k : IntKind → Nat → β) : asNat v D k = D ∨ ∃ kk n, v = .int kk (.ofNat n) ∧ asNat v D k = k kk n := by
  cases v <;> first
    | exact .inl rfl
    | (rename_i kk n; cases n <;> first | exact .inr ⟨_, _, rfl, rfl⟩ | exact .inl rfl)
def asStr {β : Type} (v : Value) (D : β) (k : ByteArray → β) : β :=
  @Value.rec (fun _ => β) (fun _ => Unit) (fun _ => Unit) (fun _ => D) (fun _ _ => D) (fun _ _ => D) (fun _ _ _ => D) (fun s => k s) (fun _ => D) (fun _ _ _ => D) (fun _ => D) (fun _ => D)
    (fun _ _ _ _ _ => D) D (fun _ _ _ => D) D (fun _ _ => D) (fun _ _ => D) (fun _ _ => ()) () (fun _ _ _ _ => ()) v
theorem asStr_cases {β : Type} (v : Value) (D : β) (k : ByteArray → β) : asStr v D k = D ∨ ∃ s, v = .string s ∧ asStr v D k = k s := by
  cases v <;> first
    | exact .inl rfl
    | exact .inr ⟨_, rfl, rfl⟩
def asPtr {β : Type} (v : Value) (D : β) (k : Addr → β) : β :=
  @Value.rec (fun _ => β) (fun _ => Unit) (fun _ => Unit) (fun _ => D) (fun _ _ => D) (fun _ _ => D) (fun _ _ _ => D) (fun _ => D) (fun a => @Option.rec Addr (fun _ => β) D k a) (fun _ _ _ => D) (fun _ => D) (fun _ => D)
    (fun _ _ _ _ _ => D) D (fun _ _ _ => D) D (fun _ _ => D) (fun _ _ => D) (fun _ _ => ()) () (fun _ _ _ _ => ()) v
theorem asPtr_cases {β : Type} (v : Value) (D : β) (k : Addr → β) : (asPtr v D k = D ∧ ∀ a, v ≠ .pointer (some a)) ∨ ∃ a, v = .pointer (some a) ∧ asPtr v D k = k a := by
  cases v <;> first
    | exact .inl ⟨rfl, fun a h => by cases h⟩
    | (rename_i o; cases o <;> first | exact .inr ⟨_, rfl, rfl⟩ | exact .inl ⟨rfl, fun a h => by cases h⟩)
def asSlc {β : Type} (v : Value) (D : β) (k : Addr → Nat → Nat → β) : β :=
  @Value.rec (fun _ => β) (fun _ => Unit) (fun _ => Unit) (fun _ => D) (fun _ _ => D) (fun _ _ => D) (fun _ _ _ => D) (fun _ => D) (fun _ => D) (fun a l c => @Option.rec Addr (fun _ => β) D (fun a => k a l c) a) (fun _ => D) (fun _ => D)
    (fun _ _ _ _ _ => D) D (fun _ _ _ => D) D (fun _ _ => D) (fun _ _ => D) (fun _ _ => ()) () (fun _ _ _ _ => ()) v
theorem asSlc_cases {β : Type} (v : Value) (D : β) (k : Addr → Nat → Nat → β) : asSlc v D k = D ∨ ∃ a l c, v = .slice (some a) l c ∧ asSlc v D k = k a l c := by
  cases v <;> first
    | exact .inl rfl
    | (rename_i o _ _; cases o <;> first | exact .inr ⟨_, _, _, rfl, rfl⟩ | exact .inl rfl)
def asBool {β : Type} (v : Value) (D : β) (k : Bool → β) : β :=
  @Value.rec (fun _ => β) (fun _ => Unit) (fun _ => Unit) (fun b => k b) (fun _ _ => D) (fun _ _ => D) (fun _ _ _ => D) (fun _ => D) (fun _ => D) (fun _ _ _ => D) (fun _ => D) (fun _ => D)
    (fun _ _ _ _ _ => D) D (fun _ _ _ => D) D (fun _ _ => D) (fun _ _ => D) (fun _ _ => ()) () (fun _ _ _ _ => ()) v
theorem asBool_cases {β : Type} (v : Value) (D : β) (k : Bool → β) : (asBool v D k = D ∧ ∀ b, v ≠ .bool b) ∨ ∃ b, v = .bool b ∧ asBool v D k = k b := by
  cases v <;> first
    | exact .inl ⟨rfl, fun b h => by cases h⟩
    | exact .inr ⟨_, rfl, rfl⟩
def asTup {β : Type} (v : Value) (D : β) (k : Array Value → β) : β :=
  @Value.rec (fun _ => β) (fun _ => Unit) (fun _ => Unit) (fun _ => D) (fun _ _ => D) (fun _ _ => D) (fun _ _ _ => D) (fun _ => D) (fun _ => D) (fun _ _ _ => D) (fun _ => D) (fun _ => D)
    (fun _ _ _ _ _ => D) D (fun _ _ _ => D) D (fun _ _ => D) (fun c _ => k c) (fun _ _ => ()) () (fun _ _ _ _ => ()) v
theorem asTup_cases {β : Type} (v : Value) (D : β) (k : Array Value → β) : (asTup v D k = D ∧ ∀ c, v ≠ .tuple c) ∨ ∃ c, v = .tuple c ∧ asTup v D k = k c := by
  cases v <;> first
    | exact .inl ⟨rfl, fun b h => by cases h⟩
    | exact .inr ⟨_, rfl, rfl⟩
def oneC (v : Value) : Bool :=
  @Value.rec (fun _ => Bool) (fun _ => Unit) (fun _ => Unit) (fun _ => true) (fun _ _ => true) (fun _ _ => true) (fun _ _ _ => true) (fun _ => true) (fun _ => true) (fun _ _ _ => true) (fun _ => true) (fun _ => true)
    (fun _ _ _ _ _ => true) true (fun _ _ _ => true) true (fun _ _ => false) (fun _ _ => false) (fun _ _ => ()) () (fun _ _ _ _ => ()) v
theorem oneC_eq (v : Value) : oneC v = v.oneCell' := by cases v <;> rfl

def kindC : IntKind → KindC
  | .i8 => ⟨fun k => @IntKind.rec (fun _ => Bool) true false false false false false false false k⟩
  | .i16 => ⟨fun k => @IntKind.rec (fun _ => Bool) false true false false false false false false k⟩
  | .i32 => ⟨fun k => @IntKind.rec (fun _ => Bool) false false true false false false false false k⟩
  | .i64 => ⟨fun k => @IntKind.rec (fun _ => Bool) false false false true false false false false k⟩
  | .u8 => ⟨fun k => @IntKind.rec (fun _ => Bool) false false false false true false false false k⟩
  | .u16 => ⟨fun k => @IntKind.rec (fun _ => Bool) false false false false false true false false k⟩
  | .u32 => ⟨fun k => @IntKind.rec (fun _ => Bool) false false false false false false true false k⟩
  | .u64 => ⟨fun k => @IntKind.rec (fun _ => Bool) false false false false false false false true k⟩
theorem kindC_eq (a b : IntKind) (h : (kindC a).run b = true) : b = a := by cases a <;> cases b <;> first | rfl | cases h
def lim : IntKind → Nat
  | .i8 => 128
  | .i16 => 32768
  | .i32 => 2147483648
  | .i64 => 9223372036854775808
  | .u8 => 256
  | .u16 => 65536
  | .u32 => 4294967296
  | .u64 => 18446744073709551616
theorem wrap_lim (k : IntKind) (n : Nat) (h : n < lim k) : k.wrap (Int.ofNat n) = Int.ofNat n := by
  have e : (Int.ofNat n : Int) = (n : Int) := rfl
  rw [e]
  cases k <;> simp only [lim] at h <;> simp [IntKind.wrap, IntKind.bits, IntKind.signed] <;> omega

/-! ### Whole numbers -/
section
variable [Sg] {P : Program}
theorem abin_arith {op : BinOp} {t : TypeId} {x y : Operand} {k : IntKind} {a b : Int} {h : AHeap} (ho : op = .add ∨ op = .sub ∨ op = .mul) :
    abin P op t x y (.int k a) (.int k b) h = some (.int k (k.wrap (match (generalizing := false) op with | .add => a + b | .sub => a - b | _ => a * b))) := by
  rcases ho with rfl | rfl | rfl <;> (cases k <;> rfl)
theorem abin_cmp {op : BinOp} {t : TypeId} {x y : Operand} {k : IntKind} {a b : Int} {h : AHeap} (ho : op = .eql ∨ op = .neq ∨ op = .lss ∨ op = .leq ∨ op = .gtr ∨ op = .geq) :
    abin P op t x y (.int k a) (.int k b) h = some (.bool (match (generalizing := false) op with | .eql => a == b | .neq => a != b | .lss => decide (a < b) | .leq => decide (a ≤ b) | .gtr => decide (a > b) | _ => decide (a ≥ b))) := by
  rcases ho with rfl | rfl | rfl | rfl | rfl | rfl <;> (cases k <;> rfl)
theorem beq_int (n m : Nat) : Nat.beq n m = (Int.ofNat n == Int.ofNat m) := by
  rw [Bool.eq_iff_iff]
  simp
  omega
theorem blt_int (n m : Nat) : Nat.blt n m = decide (Int.ofNat n < Int.ofNat m) := by
  rw [Bool.eq_iff_iff]
  simp [Nat.blt]
  omega
theorem ble_int (n m : Nat) : Nat.ble n m = decide (Int.ofNat n ≤ Int.ofNat m) := by
  rw [Bool.eq_iff_iff]
  simp
theorem abin_gen {f : Nat → Nat → Nat} {op : BinOp} {t : TypeId} {x y : Operand} {h : AHeap} (ho : op = .add ∨ op = .mul) (hf : ∀ n m : Nat, Int.ofNat (f n m) = match (generalizing := false) op with | .add => Int.ofNat n + Int.ofNat m | .sub => Int.ofNat n - Int.ofNat m | _ => Int.ofNat n * Int.ofNat m)
    (k : IntKind) (n m : Nat) (hlt : f n m < lim k) : abin P op t x y (.int k (.ofNat n)) (.int k (.ofNat m)) h = some (.int k (.ofNat (f n m))) := by
  rw [abin_arith (ho.imp id .inr), ← hf, wrap_lim _ _ hlt]
theorem abin_sub {t : TypeId} {x y : Operand} {h : AHeap} (k : IntKind) (n m : Nat) (hle : m ≤ n) (hlt : n < lim k) : abin P .sub t x y (.int k (.ofNat n)) (.int k (.ofNat m)) h = some (.int k (.ofNat (n - m))) := by
  rw [abin_arith (.inr (.inl rfl))]
  simp only
  rw [show (Int.ofNat n - Int.ofNat m : Int) = Int.ofNat (n - m) by simp only [Int.ofNat_eq_natCast]; omega, wrap_lim _ _ (by omega)]
end
/-- What is done with two values, else something else. -/
structure BinK where
  run : Value → Value → OutK → (Value → OutK) → OutK
def natsK (kb : IntKind) (a b : Value) (D : OutK) (k : Nat → Nat → OutK) : OutK :=
  asNat a D fun k1 n => asNat b D fun k2 m => cd ((kindC kb).run k1) (cd ((kindC kb).run k2) (k n m) D) D
theorem natsK_spec (kb : IntKind) (a b : Value) (D : OutK) (k : Nat → Nat → OutK) : natsK kb a b D k = D ∨ ∃ n m, a = .int kb (.ofNat n) ∧ b = .int kb (.ofNat m) ∧ natsK kb a b D k = k n m := by
  unfold natsK
  rcases asNat_cases a D (fun k1 n => asNat b D fun k2 m => cd ((kindC kb).run k1) (cd ((kindC kb).run k2) (k n m) D) D) with e | ⟨k1, n, rfl, e⟩
  · exact .inl e
  rw [e]
  rcases asNat_cases b D (fun k2 m => cd ((kindC kb).run k1) (cd ((kindC kb).run k2) (k n m) D) D) with e | ⟨k2, m, rfl, e⟩
  · exact .inl e
  rw [e]
  cases h1 : (kindC kb).run k1 with
  | false => exact .inl rfl
  | true =>
    cases h2 : (kindC kb).run k2 with
    | false => exact .inl rfl
    | true =>
      have := kindC_eq _ _ h1
      subst this
      have := kindC_eq _ _ h2
      subst this
      exact .inr ⟨n, m, rfl, rfl, rfl⟩
def arithK (f : Nat → Nat → Nat) (kb : IntKind) : BinK := ⟨fun a b D k => natsK kb a b D fun n m => natK (f n m) fun z => cd (Nat.blt z (lim kb)) (k (.int kb (.ofNat z))) D⟩
def subK (kb : IntKind) : BinK := ⟨fun a b D k => natsK kb a b D fun n m => cd (Nat.ble m n) (cd (Nat.blt n (lim kb)) (natK (Nat.sub n m) fun z => k (.int kb (.ofNat z))) D) D⟩
def cmpK (f : Nat → Nat → Bool) (kb : IntKind) : BinK := ⟨fun a b D k => natsK kb a b D fun n m => cd (f n m) (k (.bool true)) (k (.bool false))⟩
def intK (kb : IntKind) (op : BinOp) : BinK :=
  match op with
  | .add => arithK Nat.add kb
  | .mul => arithK Nat.mul kb
  | .sub => subK kb
  | .eql => cmpK Nat.beq kb
  | .neq => cmpK (fun n m => not (Nat.beq n m)) kb
  | .lss => cmpK Nat.blt kb
  | .leq => cmpK Nat.ble kb
  | .gtr => cmpK (fun n m => Nat.blt m n) kb
  | .geq => cmpK (fun n m => Nat.ble m n) kb
  | _ => ⟨fun _ _ D _ => D⟩
section
variable [Sg] {P : Program}
def BinOk (P : Program) (op : BinOp) (t : TypeId) (s : BinK) : Prop := ∀ a b D k, s.run a b D k = D ∨ ∃ v, s.run a b D k = k v ∧ ∀ x y h, abin P op t x y a b h = some v
theorem arithK_ok {f : Nat → Nat → Nat} {op : BinOp} {t : TypeId} (ho : op = .add ∨ op = .mul) (hf : ∀ n m : Nat, Int.ofNat (f n m) = match (generalizing := false) op with | .add => Int.ofNat n + Int.ofNat m | .sub => Int.ofNat n - Int.ofNat m | _ => Int.ofNat n * Int.ofNat m) (kb : IntKind) : BinOk P op t (arithK f kb) := by
  intro a b D k
  rcases natsK_spec kb a b D (fun n m => natK (f n m) fun z => cd (Nat.blt z (lim kb)) (k (.int kb (.ofNat z))) D) with e | ⟨n, m, rfl, rfl, e⟩
  · exact .inl e
  · have e2 : (arithK f kb).run (.int kb (.ofNat n)) (.int kb (.ofNat m)) D k = natK (f n m) fun z => cd (Nat.blt z (lim kb)) (k (.int kb (.ofNat z))) D := e
    rw [e2, natK_eq]
    cases h3 : Nat.blt (f n m) (lim kb) with
    | false => exact .inl rfl
    | true =>
      simp only [Nat.blt] at h3
      exact .inr ⟨_, rfl, fun x y h => abin_gen ho hf kb n m (Nat.le_of_ble_eq_true h3)⟩
theorem subK_ok {t : TypeId} (kb : IntKind) : BinOk P .sub t (subK kb) := by
  intro a b D k
  rcases natsK_spec kb a b D (fun n m => cd (Nat.ble m n) (cd (Nat.blt n (lim kb)) (natK (Nat.sub n m) fun z => k (.int kb (.ofNat z))) D) D) with e | ⟨n, m, rfl, rfl, e⟩
  · exact .inl e
  · have e2 : (subK kb).run (.int kb (.ofNat n)) (.int kb (.ofNat m)) D k = cd (Nat.ble m n) (cd (Nat.blt n (lim kb)) (natK (Nat.sub n m) fun z => k (.int kb (.ofNat z))) D) D := e
    rw [e2]
    cases h3 : Nat.ble m n with
    | false => exact .inl rfl
    | true =>
      cases h4 : Nat.blt n (lim kb) with
      | false => exact .inl rfl
      | true =>
        simp only [Nat.blt] at h4
        refine .inr ⟨.int kb (.ofNat (n - m)), by rw [cd_eq, cond_true, cd_eq, cond_true, natK_eq]; rfl, fun x y h => abin_sub kb n m (Nat.le_of_ble_eq_true h3) (Nat.le_of_ble_eq_true h4)⟩
theorem cmpK_ok {op : BinOp} {t : TypeId} {f : Nat → Nat → Bool} (ho : op = .eql ∨ op = .neq ∨ op = .lss ∨ op = .leq ∨ op = .gtr ∨ op = .geq)
    (hf : ∀ n m : Nat, f n m = match (generalizing := false) op with | .eql => Int.ofNat n == Int.ofNat m | .neq => Int.ofNat n != Int.ofNat m | .lss => decide (Int.ofNat n < Int.ofNat m) | .leq => decide (Int.ofNat n ≤ Int.ofNat m) | .gtr => decide (Int.ofNat n > Int.ofNat m) | _ => decide (Int.ofNat n ≥ Int.ofNat m))
    (kb : IntKind) : BinOk P op t (cmpK f kb) := by
  intro a b D k
  rcases natsK_spec kb a b D (fun n m => cd (f n m) (k (.bool true)) (k (.bool false))) with e | ⟨n, m, rfl, rfl, e⟩
  · exact .inl e
  · have e2 : (cmpK f kb).run (.int kb (.ofNat n)) (.int kb (.ofNat m)) D k = cd (f n m) (k (.bool true)) (k (.bool false)) := e
    rw [e2]
    refine .inr ⟨.bool (f n m), by cases f n m <;> rfl, fun x y h => ?_⟩
    rw [abin_cmp ho, ← hf]
theorem intK_ok {op : BinOp} {t : TypeId} (kb : IntKind) : BinOk P op t (intK kb op) := by
  unfold intK
  split
  · exact arithK_ok (.inl rfl) (fun n m => rfl) _
  · exact arithK_ok (.inr rfl) (fun n m => rfl) _
  · exact subK_ok _
  · exact cmpK_ok (by simp) (fun n m => beq_int n m) _
  · exact cmpK_ok (by simp) (fun n m => by show (!(Nat.beq n m)) = !(Int.ofNat n == Int.ofNat m); rw [beq_int]) _
  · exact cmpK_ok (by simp) (fun n m => blt_int n m) _
  · exact cmpK_ok (by simp) (fun n m => ble_int n m) _
  · exact cmpK_ok (by simp) (fun n m => blt_int m n) _
  · exact cmpK_ok (by simp) (fun n m => ble_int m n) _
  · exact fun a b D k => .inl rfl
end
end
end Go.Ab
