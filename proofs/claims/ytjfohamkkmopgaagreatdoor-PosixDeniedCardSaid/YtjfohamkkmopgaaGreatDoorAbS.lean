/- The abstract evaluator in closures: the same outcomes, with less work for the kernel. The abstract evaluator in closures: operations, regions, code, functions: what they come to, the evaluator comes to. -/
import Derived.Test.YtjfohamkkmopgaaGreatDoorAbR
import Derived.Lib.Strings
namespace Go.Ab
open Go.RowKit
set_option linter.unusedVariables false
set_option linter.unusedSectionVars false
set_option linter.unusedSimpArgs false

structure KindC where
  run : IntKind → Bool

noncomputable section

def ob {α β : Type} (x : Option α) (k : α → Option β) : Option β := @Option.rec α (fun _ => Option β) none k x
@[simp] theorem ob_none {α β : Type} (k : α → Option β) : ob none k = none := rfl
@[simp] theorem ob_some {α β : Type} (a : α) (k : α → Option β) : ob (some a) k = k a := rfl
/-- If it is none, something else. -/
def oe {α : Type} (x : Option α) (d : Option α) : Option α := @Option.rec α (fun _ => Option α) d (fun a => some a) x
@[simp] theorem oe_none {α : Type} (d : Option α) : oe none d = d := rfl
@[simp] theorem oe_some {α : Type} (a : α) (d : Option α) : oe (some a) d = some a := rfl

/-! ### Trees -/
def fget {α : Type} (t : PT α) (i : Nat) : Option α :=
  @PT.rec α (fun _ => Nat → Option α) (fun _ => none) (fun v _ _ gl gr i => @Bool.rec (fun _ => Option α) (@Bool.rec (fun _ => Option α) (gr (Nat.sub (Nat.div i 2) 1)) (gl (Nat.div i 2)) (Nat.beq (Nat.mod i 2) 1)) v (Nat.beq i 0)) t i
theorem rec_cond {α : Type} (b : Bool) (x y : α) : @Bool.rec (fun _ => α) y x b = cond b x y := by cases b <;> rfl
theorem fget_eq {α : Type} : ∀ (t : PT α) (i : Nat), fget t i = t.get i := by
  intro t
  induction t with
  | nil => intro i; rfl
  | node v l r ih1 ih2 =>
    intro i
    show @Bool.rec (fun _ => Option α) (@Bool.rec (fun _ => Option α) (fget r (Nat.sub (Nat.div i 2) 1)) (fget l (Nat.div i 2)) (Nat.beq (Nat.mod i 2) 1)) v (Nat.beq i 0) = _
    rw [ih1, ih2, rec_cond, rec_cond]; rfl
theorem setF_fuel {α : Type} : ∀ (k j : Nat) (t : PT α) (i : Nat) (a : α), i < k → i < j → PT.setF k t i a = PT.setF j t i a := by
  intro k
  induction k with
  | zero => intro j t i a h; omega
  | succ k ih =>
    intro j t i a hk hj
    obtain ⟨j, rfl⟩ : ∃ m, j = m + 1 := ⟨j - 1, by omega⟩
    cases t with
    | nil =>
      simp only [PT.setF_nil]
      split
      · rfl
      · split
        · rw [ih j _ _ _ (by omega) (by omega)]
        · rw [ih j _ _ _ (by omega) (by omega)]
    | node v l r =>
      simp only [PT.setF_node]
      split
      · rfl
      · split
        · rw [ih j _ _ _ (by omega) (by omega)]
        · rw [ih j _ _ _ (by omega) (by omega)]
theorem set_nil {α : Type} (i : Nat) (a : α) : (PT.nil : PT α).set i a = if i = 0 then .node (some a) .nil .nil else if i % 2 = 1 then .node none (PT.nil.set (i / 2) a) .nil else .node none .nil (PT.nil.set (i / 2 - 1) a) := by
  unfold PT.set
  rw [PT.setF_nil]
  split
  · rfl
  · split
    · rw [setF_fuel i (i / 2 + 1) _ _ _ (by omega) (by omega)]
    · rw [setF_fuel i (i / 2 - 1 + 1) _ _ _ (by omega) (by omega)]
theorem set_node {α : Type} (v : Option α) (l r : PT α) (i : Nat) (a : α) : (PT.node v l r).set i a = if i = 0 then .node (some a) l r else if i % 2 = 1 then .node v (l.set (i / 2) a) r else .node v l (r.set (i / 2 - 1) a) := by
  unfold PT.set
  rw [PT.setF_node]
  split
  · rfl
  · split
    · rw [setF_fuel i (i / 2 + 1) _ _ _ (by omega) (by omega)]
    · rw [setF_fuel i (i / 2 - 1 + 1) _ _ _ (by omega) (by omega)]
def fset {α : Type} (t : PT α) (i : Nat) (a : α) : PT α :=
  @PT.rec α (fun _ => Nat → PT α) (fun i => PT.nil.set i a) (fun v l r sl sr i => cond (Nat.beq i 0) (.node (some a) l r) (cond (Nat.beq (Nat.mod i 2) 1) (.node v (sl (Nat.div i 2)) r) (.node v l (sr (Nat.sub (Nat.div i 2) 1))))) t i
theorem fset_eq {α : Type} (a : α) : ∀ (t : PT α) (i : Nat), fset t i a = t.set i a := by
  intro t
  induction t with
  | nil => intro i; rfl
  | node v l r ih1 ih2 =>
    intro i
    show cond (Nat.beq i 0) (PT.node (some a) l r) (cond (Nat.beq (Nat.mod i 2) 1) (PT.node v (fset l (Nat.div i 2) a) r) (PT.node v l (fset r (Nat.sub (Nat.div i 2) 1) a))) = _
    rw [ih1, ih2, set_node]
    simp only [PT.cond_beq]
    rfl
/-! ### A frame's slots: three steps of eight -/
structure N8 (α : Type) where
  a : α
  b : α
  c : α
  d : α
  e : α
  f : α
  g : α
  h : α
def N8.sel {α : Type} (n : N8 α) (i : Nat) : α := match i with
  | 0 => n.a
  | 1 => n.b
  | 2 => n.c
  | 3 => n.d
  | 4 => n.e
  | 5 => n.f
  | 6 => n.g
  | _ => n.h
def N8.upd {α : Type} (n : N8 α) (i : Nat) (x : α) : N8 α := match i with
  | 0 => { n with a := x }
  | 1 => { n with b := x }
  | 2 => { n with c := x }
  | 3 => { n with d := x }
  | 4 => { n with e := x }
  | 5 => { n with f := x }
  | 6 => { n with g := x }
  | _ => { n with h := x }
theorem N8.sel_upd {α : Type} (n : N8 α) (i j : Nat) (x : α) (hi : i < 8) (hj : j < 8) : (n.upd i x).sel j = if j = i then x else n.sel j := by
  have h1 : i = 0 ∨ i = 1 ∨ i = 2 ∨ i = 3 ∨ i = 4 ∨ i = 5 ∨ i = 6 ∨ i = 7 := by omega
  have h2 : j = 0 ∨ j = 1 ∨ j = 2 ∨ j = 3 ∨ j = 4 ∨ j = 5 ∨ j = 6 ∨ j = 7 := by omega
  rcases h1 with rfl | rfl | rfl | rfl | rfl | rfl | rfl | rfl <;> rcases h2 with rfl | rfl | rfl | rfl | rfl | rfl | rfl | rfl <;> rfl
structure SelC (α : Type) where
  run : N8 α → α
def selC {α : Type} (i : Nat) : SelC α := match i with
  | 0 => ⟨fun n => n.a⟩
  | 1 => ⟨fun n => n.b⟩
  | 2 => ⟨fun n => n.c⟩
  | 3 => ⟨fun n => n.d⟩
  | 4 => ⟨fun n => n.e⟩
  | 5 => ⟨fun n => n.f⟩
  | 6 => ⟨fun n => n.g⟩
  | _ => ⟨fun n => n.h⟩
theorem selC_eq {α : Type} (i : Nat) (n : N8 α) : (selC i).run n = n.sel i := by unfold selC N8.sel; split <;> rfl
abbrev E1 := N8 (Option Value)
abbrev E2 := N8 E1
abbrev E3 := N8 E2
abbrev OutK := Option (Exit × E3 × AHeap)
/-- One of two. -/
def cd (b : Bool) (x y : OutK) : OutK := @Bool.rec (fun _ => OutK) y x b
theorem cd_eq (b : Bool) (x y : OutK) : cd b x y = cond b x y := by cases b <;> rfl
theorem beq_cd (i j : Nat) (x y : OutK) : cd (Nat.beq i j) x y = if i = j then x else y := by rw [cd_eq, PT.cond_beq]
structure UpdC (α : Type) where
  run : (α → (α → OutK) → OutK) → N8 α → (N8 α → OutK) → OutK
/-- One of eight, turned by what goes on with it. -/
def updC {α : Type} (i : Nat) : UpdC α := match i with
  | 0 => ⟨fun t n k => @N8.rec α (fun _ => OutK) (fun a b c d e f g h => t a (fun y => k (N8.mk y b c d e f g h))) n⟩
  | 1 => ⟨fun t n k => @N8.rec α (fun _ => OutK) (fun a b c d e f g h => t b (fun y => k (N8.mk a y c d e f g h))) n⟩
  | 2 => ⟨fun t n k => @N8.rec α (fun _ => OutK) (fun a b c d e f g h => t c (fun y => k (N8.mk a b y d e f g h))) n⟩
  | 3 => ⟨fun t n k => @N8.rec α (fun _ => OutK) (fun a b c d e f g h => t d (fun y => k (N8.mk a b c y e f g h))) n⟩
  | 4 => ⟨fun t n k => @N8.rec α (fun _ => OutK) (fun a b c d e f g h => t e (fun y => k (N8.mk a b c d y f g h))) n⟩
  | 5 => ⟨fun t n k => @N8.rec α (fun _ => OutK) (fun a b c d e f g h => t f (fun y => k (N8.mk a b c d e y g h))) n⟩
  | 6 => ⟨fun t n k => @N8.rec α (fun _ => OutK) (fun a b c d e f g h => t g (fun y => k (N8.mk a b c d e f y h))) n⟩
  | _ => ⟨fun t n k => @N8.rec α (fun _ => OutK) (fun a b c d e f g h => t h (fun y => k (N8.mk a b c d e f g y))) n⟩
theorem updC_eq {α : Type} (i : Nat) (x : α → α) (n : N8 α) (k : N8 α → OutK) (t : α → (α → OutK) → OutK) (ht : ∀ a k, t a k = k (x a)) : (updC i).run t n k = k (n.upd i (x (n.sel i))) := by
  unfold updC N8.upd N8.sel
  split <;> simp only [ht]

/-- The slots, by their numbers. -/
def lk (e : E3) (i : Nat) : Option Value := ((e.sel (i / 64)).sel (i / 8 % 8)).sel (i % 8)
def lkd (e : E3) (i : Nat) : Option Value := if i < 512 then lk e i else none
def Eq3 (e : E3) (p : PT Value) : Prop := ∀ i, p.get i = lkd e i
def upd3 (e : E3) (i : Nat) (v : Value) : E3 := e.upd (i / 64) ((e.sel (i / 64)).upd (i / 8 % 8) (((e.sel (i / 64)).sel (i / 8 % 8)).upd (i % 8) (some v)))
theorem lk_upd3 (e : E3) (i j : Nat) (v : Value) (hi : i < 512) (hj : j < 512) : lk (upd3 e i v) j = if j = i then some v else lk e j := by
  unfold lk upd3
  rw [N8.sel_upd _ _ _ _ (by omega) (by omega)]
  by_cases h1 : j / 64 = i / 64
  · rw [if_pos h1, N8.sel_upd _ _ _ _ (by omega) (by omega)]
    by_cases h2 : j / 8 % 8 = i / 8 % 8
    · rw [if_pos h2, N8.sel_upd _ _ _ _ (by omega) (by omega)]
      by_cases h3 : j % 8 = i % 8
      · rw [if_pos h3, if_pos (by omega)]
      · rw [if_neg h3, if_neg (by omega), h1, h2]
    · rw [if_neg h2, if_neg (by omega), h1]
  · rw [if_neg h1, if_neg (by omega)]
theorem Eq3.put {e : E3} {p : PT Value} (h : Eq3 e p) {i : Nat} (hi : i < 512) (v : Value) : Eq3 (upd3 e i v) (p.set i v) := by
  intro j
  rw [PT.get_set]
  unfold lkd
  by_cases hj : j < 512
  · rw [if_pos hj, lk_upd3 _ _ _ _ hi hj]
    by_cases hij : i = j
    · subst hij; simp
    · rw [if_neg hij, if_neg (fun e => hij e.symm), h j]; unfold lkd; rw [if_pos hj]
  · rw [if_neg hj, if_neg (by omega), h j]; unfold lkd; rw [if_neg hj]
def none1 : E1 := ⟨none, none, none, none, none, none, none, none⟩
def none2 : E2 := ⟨none1, none1, none1, none1, none1, none1, none1, none1⟩
def none3 : E3 := ⟨none2, none2, none2, none2, none2, none2, none2, none2⟩
theorem sel_same {α : Type} (x : α) (i : Nat) : (N8.mk x x x x x x x x).sel i = x := by unfold N8.sel; split <;> rfl
theorem none3_eq : Eq3 none3 .nil := by
  intro i
  unfold lkd
  split
  · unfold lk none3
    rw [sel_same]; unfold none2; rw [sel_same]; unfold none1; rw [sel_same]; rfl
  · rfl
structure GetK where
  run : E3 → (Value → OutK) → OutK
def getK (i : Nat) : GetK := cond (Nat.blt i 512) ⟨fun e k => @Option.rec Value (fun _ => OutK) none k ((selC (i % 8)).run ((selC (i / 8 % 8)).run ((selC (i / 64)).run e)))⟩ ⟨fun _ _ => none⟩
theorem getK_spec {i : Nat} {e : E3} {k : Value → OutK} {r : Exit × E3 × AHeap} (h : (getK i).run e k = some r) : ∃ v, lkd e i = some v ∧ k v = some r := by
  unfold getK at h
  unfold lkd
  cases hb : Nat.blt i 512 with
  | false => rw [hb] at h; cases h
  | true =>
    rw [hb] at h
    simp only [Nat.blt] at hb
    rw [if_pos (show i < 512 from Nat.le_of_ble_eq_true hb)]
    simp only [cond_true, selC_eq] at h
    unfold lk
    cases hv : ((e.sel (i / 64)).sel (i / 8 % 8)).sel (i % 8) with
    | none => rw [hv] at h; cases h
    | some v => rw [hv] at h; exact ⟨v, rfl, h⟩
structure PutK where
  run : Value → E3 → (E3 → OutK) → OutK
def putK (i : Nat) : PutK := cond (Nat.blt i 512) ⟨fun v e k => (updC (i / 64)).run (fun a k => (updC (i / 8 % 8)).run (fun b k => (updC (i % 8)).run (fun _ k => k (some v)) b k) a k) e k⟩ ⟨fun _ _ _ => none⟩
theorem putK_spec {i : Nat} {e : E3} {v : Value} {k : E3 → OutK} {r : Exit × E3 × AHeap} (h : (putK i).run v e k = some r) : i < 512 ∧ k (upd3 e i v) = some r := by
  unfold putK at h
  cases hb : Nat.blt i 512 with
  | false => rw [hb] at h; cases h
  | true =>
    rw [hb] at h
    simp only [Nat.blt] at hb
    refine ⟨Nat.le_of_ble_eq_true hb, ?_⟩
    simp only [cond_true] at h
    rw [updC_eq (x := fun a => a.upd (i / 8 % 8) ((a.sel (i / 8 % 8)).upd (i % 8) (some v)))] at h
    · exact h
    · intro a k
      rw [updC_eq (x := fun b => b.upd (i % 8) (some v))]
      intro b k
      rw [updC_eq (x := fun _ => some v)]
      intro c k; rfl
/-- A number, made plain. -/
def natK (n : Nat) (k : Nat → OutK) : OutK := @Nat.rec (fun _ => OutK) (k 0) (fun m _ => k (Nat.succ m)) n
theorem natK_eq (n : Nat) (k : Nat → OutK) : natK n k = k n := by cases n <;> rfl
/-- A tree with one place turned, its way made plain. -/
def fsetK {α : Type} (t : PT α) (i : Nat) (a : α) (k : PT α → OutK) : OutK :=
  @PT.rec α (fun _ => Nat → (PT α → OutK) → OutK) (fun i k => k (PT.nil.set i a)) (fun v l r sl sr i k => cd (Nat.beq i 0) (k (.node (some a) l r)) (cd (Nat.beq (Nat.mod i 2) 1) (sl (Nat.div i 2) fun l' => k (.node v l' r)) (sr (Nat.sub (Nat.div i 2) 1) fun r' => k (.node v l r')))) t i k
theorem fsetK_eq {α : Type} (a : α) : ∀ (t : PT α) (i : Nat) (k : PT α → OutK), fsetK t i a k = k (t.set i a) := by
  intro t
  induction t with
  | nil => intro i k; rfl
  | node v l r ih1 ih2 =>
    intro i k
    show cd (Nat.beq i 0) (k (.node (some a) l r)) (cd (Nat.beq (Nat.mod i 2) 1) (fsetK l (Nat.div i 2) a fun l' => k (.node v l' r)) (fsetK r (Nat.sub (Nat.div i 2) 1) a fun r' => k (.node v l r'))) = _
    rw [ih1, ih2, set_node]
    simp only [beq_cd]
    split
    · rfl
    · rw [show Nat.mod i 2 = i % 2 from rfl]
      split <;> rfl

/-- A row, as a tree; built as far as it is looked at. -/
def rowT {α : Type} : Nat → List α → PT α
  | 0, _ => .nil
  | k + 1, l => @List.rec α (fun _ => PT α) .nil (fun a r _ => .node (some a) (rowT k (alt r)) (rowT k (alt r.tail))) l
theorem rowT_get {α : Type} : ∀ (k : Nat) (l : List α) (i : Nat), i + 1 < 2 ^ k → (rowT k l).get i = l[i]?
  | 0, l, i, h => by omega
  | k + 1, [], i, h => by simp [rowT]
  | k + 1, a :: r, i, h => by
    show (PT.node (some a) (rowT k (alt r)) (rowT k (alt r.tail))).get i = _
    rw [PT.get_node]
    rw [Nat.pow_succ] at h
    split
    · rename_i h0; subst h0; rfl
    · split
      · rename_i h0 h1
        rw [rowT_get k _ _ (by omega), alt_get]
        obtain ⟨j, rfl⟩ : ∃ j, i = j + 1 := ⟨i - 1, by omega⟩
        rw [List.getElem?_cons_succ]
        congr 1; omega
      · rename_i h0 h1
        rw [rowT_get k _ _ (by omega), alt_get]
        obtain ⟨j, rfl⟩ : ∃ j, i = j + 1 := ⟨i - 1, by omega⟩
        rw [List.getElem?_cons_succ, List.getElem?_tail]
        congr 1; omega
/-- The n-th of a row. -/
def fat {α : Type} (l : List α) (n : Nat) : Option α := cond (Nat.blt n 1000000) (fget (rowT 20 l) n) l[n]?
theorem fat_eq {α : Type} (l : List α) (n : Nat) : fat l n = l[n]? := by
  unfold fat
  cases h : Nat.blt n 1000000 with
  | false => rfl
  | true =>
    simp only [Nat.blt] at h
    have := Nat.le_of_ble_eq_true h
    show fget (rowT 20 l) n = _
    rw [fget_eq, rowT_get 20 l n (by omega)]

/-! ### Forms of values -/
def asNat {β : Type} (v : Value) (D : β) (k : IntKind → Nat → β) : β :=
  @Value.rec (fun _ => β) (fun _ => Unit) (fun _ => Unit) (fun _ => D) (fun kk n => @Int.rec (fun _ => β) (fun m => k kk m) (fun _ => D) n) (fun _ _ => D) (fun _ _ _ => D) (fun _ => D) (fun _ => D) (fun _ _ _ => D) (fun _ => D) (fun _ => D)
    (fun _ _ _ _ _ => D) D (fun _ _ _ => D) D (fun _ _ => D) (fun _ _ => D) (fun _ _ => ()) () (fun _ _ _ _ => ()) v
theorem asNat_cases {β : Type} (v : Value) (D : β) (k : IntKind → Nat → β) : asNat v D k = D ∨ ∃ kk n, v = .int kk (.ofNat n) ∧ asNat v D k = k kk n := by
  cases v <;> first
    | exact .inl rfl
    | (rename_i kk n; cases n <;> first | exact .inr ⟨_, _, rfl, rfl⟩ | exact .inl rfl)
def asStr {β : Type} (v : Value) (D : β) (k : ByteArray → β) : β :=
  @Value.rec (fun _ => β) (fun _ => Unit) (fun _ => Unit) (fun _ => D) (fun _ _ => D) (fun _ _ => D) (fun _ _ _ => D) (fun s => k s) (fun _ => D) (fun _ _ _ => D) (fun _ => D) (fun _ => D)
    (fun _ _ _ _ _ => D) D (fun _ _ _ => D) D (fun _ _ => D) (fun _ _ => D) (fun _ _ => ()) () (fun _ _ _ _ => ()) v
theorem asStr_cases {β : Type} (v : Value) (D : β) (k : ByteArray → β) : asStr v D k = D ∨ ∃ s, v = .string s ∧ asStr v D k = k s := by
  cases v <;> first
    | exact .inl rfl
    | exact .inr ⟨_, rfl, rfl⟩
def asPtr {β : Type} (v : Value) (D : β) (k : Addr → β) : β :=
  @Value.rec (fun _ => β) (fun _ => Unit) (fun _ => Unit) (fun _ => D) (fun _ _ => D) (fun _ _ => D) (fun _ _ _ => D) (fun _ => D) (fun a => @Option.rec Addr (fun _ => β) D k a) (fun _ _ _ => D) (fun _ => D) (fun _ => D)
    (fun _ _ _ _ _ => D) D (fun _ _ _ => D) D (fun _ _ => D) (fun _ _ => D) (fun _ _ => ()) () (fun _ _ _ _ => ()) v
theorem asPtr_cases {β : Type} (v : Value) (D : β) (k : Addr → β) : (asPtr v D k = D ∧ ∀ a, v ≠ .pointer (some a)) ∨ ∃ a, v = .pointer (some a) ∧ asPtr v D k = k a := by
  cases v <;> first
    | exact .inl ⟨rfl, fun a h => by cases h⟩
    | (rename_i o; cases o <;> first | exact .inr ⟨_, rfl, rfl⟩ | exact .inl ⟨rfl, fun a h => by cases h⟩)
def asSlc {β : Type} (v : Value) (D : β) (k : Addr → Nat → Nat → β) : β :=
  @Value.rec (fun _ => β) (fun _ => Unit) (fun _ => Unit) (fun _ => D) (fun _ _ => D) (fun _ _ => D) (fun _ _ _ => D) (fun _ => D) (fun _ => D) (fun a l c => @Option.rec Addr (fun _ => β) D (fun a => k a l c) a) (fun _ => D) (fun _ => D)
    (fun _ _ _ _ _ => D) D (fun _ _ _ => D) D (fun _ _ => D) (fun _ _ => D) (fun _ _ => ()) () (fun _ _ _ _ => ()) v
theorem asSlc_cases {β : Type} (v : Value) (D : β) (k : Addr → Nat → Nat → β) : asSlc v D k = D ∨ ∃ a l c, v = .slice (some a) l c ∧ asSlc v D k = k a l c := by
  cases v <;> first
    | exact .inl rfl
    | (rename_i o _ _; cases o <;> first | exact .inr ⟨_, _, _, rfl, rfl⟩ | exact .inl rfl)
def asBool {β : Type} (v : Value) (D : β) (k : Bool → β) : β :=
  @Value.rec (fun _ => β) (fun _ => Unit) (fun _ => Unit) (fun b => k b) (fun _ _ => D) (fun _ _ => D) (fun _ _ _ => D) (fun _ => D) (fun _ => D) (fun _ _ _ => D) (fun _ => D) (fun _ => D)
    (fun _ _ _ _ _ => D) D (fun _ _ _ => D) D (fun _ _ => D) (fun _ _ => D) (fun _ _ => ()) () (fun _ _ _ _ => ()) v
theorem asBool_cases {β : Type} (v : Value) (D : β) (k : Bool → β) : (asBool v D k = D ∧ ∀ b, v ≠ .bool b) ∨ ∃ b, v = .bool b ∧ asBool v D k = k b := by
  cases v <;> first
    | exact .inl ⟨rfl, fun b h => by cases h⟩
    | exact .inr ⟨_, rfl, rfl⟩
def asTup {β : Type} (v : Value) (D : β) (k : Array Value → β) : β :=
  @Value.rec (fun _ => β) (fun _ => Unit) (fun _ => Unit) (fun _ => D) (fun _ _ => D) (fun _ _ => D) (fun _ _ _ => D) (fun _ => D) (fun _ => D) (fun _ _ _ => D) (fun _ => D) (fun _ => D)
    (fun _ _ _ _ _ => D) D (fun _ _ _ => D) D (fun _ _ => D) (fun c _ => k c) (fun _ _ => ()) () (fun _ _ _ _ => ()) v
theorem asTup_cases {β : Type} (v : Value) (D : β) (k : Array Value → β) : (asTup v D k = D ∧ ∀ c, v ≠ .tuple c) ∨ ∃ c, v = .tuple c ∧ asTup v D k = k c := by
  cases v <;> first
    | exact .inl ⟨rfl, fun b h => by cases h⟩
    | exact .inr ⟨_, rfl, rfl⟩
def oneC (v : Value) : Bool :=
  @Value.rec (fun _ => Bool) (fun _ => Unit) (fun _ => Unit) (fun _ => true) (fun _ _ => true) (fun _ _ => true) (fun _ _ _ => true) (fun _ => true) (fun _ => true) (fun _ _ _ => true) (fun _ => true) (fun _ => true)
    (fun _ _ _ _ _ => true) true (fun _ _ _ => true) true (fun _ _ => false) (fun _ _ => false) (fun _ _ => ()) () (fun _ _ _ _ => ()) v
theorem oneC_eq (v : Value) : oneC v = v.oneCell' := by cases v <;> rfl

def kindC : IntKind → KindC
  | .i8 => ⟨fun k => @IntKind.rec (fun _ => Bool) true false false false false false false false k⟩
  | .i16 => ⟨fun k => @IntKind.rec (fun _ => Bool) false true false false false false false false k⟩
  | .i32 => ⟨fun k => @IntKind.rec (fun _ => Bool) false false true false false false false false k⟩
  | .i64 => ⟨fun k => @IntKind.rec (fun _ => Bool) false false false true false false false false k⟩
  | .u8 => ⟨fun k => @IntKind.rec (fun _ => Bool) false false false false true false false false k⟩
  | .u16 => ⟨fun k => @IntKind.rec (fun _ => Bool) false false false false false true false false k⟩
  | .u32 => ⟨fun k => @IntKind.rec (fun _ => Bool) false false false false false false true false k⟩
  | .u64 => ⟨fun k => @IntKind.rec (fun _ => Bool) false false false false false false false true k⟩
theorem kindC_eq (a b : IntKind) (h : (kindC a).run b = true) : b = a := by cases a <;> cases b <;> first | rfl | cases h
def lim : IntKind → Nat
  | .i8 => 128
  | .i16 => 32768
  | .i32 => 2147483648
  | .i64 => 9223372036854775808
  | .u8 => 256
  | .u16 => 65536
  | .u32 => 4294967296
  | .u64 => 18446744073709551616
theorem wrap_lim (k : IntKind) (n : Nat) (h : n < lim k) : k.wrap (Int.ofNat n) = Int.ofNat n := by
  have e : (Int.ofNat n : Int) = (n : Int) := rfl
  rw [e]
  cases k <;> simp only [lim] at h <;> simp [IntKind.wrap, IntKind.bits, IntKind.signed] <;> omega

/-! ### Whole numbers -/
section
variable [Sg] {P : Program}
theorem abin_arith {op : BinOp} {t : TypeId} {x y : Operand} {k : IntKind} {a b : Int} {h : AHeap} (ho : op = .add ∨ op = .sub ∨ op = .mul) :
    abin P op t x y (.int k a) (.int k b) h = some (.int k (k.wrap (match (generalizing := false) op with | .add => a + b | .sub => a - b | _ => a * b))) := by
  rcases ho with rfl | rfl | rfl <;> (cases k <;> rfl)
theorem abin_cmp {op : BinOp} {t : TypeId} {x y : Operand} {k : IntKind} {a b : Int} {h : AHeap} (ho : op = .eql ∨ op = .neq ∨ op = .lss ∨ op = .leq ∨ op = .gtr ∨ op = .geq) :
    abin P op t x y (.int k a) (.int k b) h = some (.bool (match (generalizing := false) op with | .eql => a == b | .neq => a != b | .lss => decide (a < b) | .leq => decide (a ≤ b) | .gtr => decide (a > b) | _ => decide (a ≥ b))) := by
  rcases ho with rfl | rfl | rfl | rfl | rfl | rfl <;> (cases k <;> rfl)
theorem beq_int (n m : Nat) : Nat.beq n m = (Int.ofNat n == Int.ofNat m) := by
  rw [Bool.eq_iff_iff]
  simp
  omega
theorem blt_int (n m : Nat) : Nat.blt n m = decide (Int.ofNat n < Int.ofNat m) := by
  rw [Bool.eq_iff_iff]
  simp [Nat.blt]
  omega
theorem ble_int (n m : Nat) : Nat.ble n m = decide (Int.ofNat n ≤ Int.ofNat m) := by
  rw [Bool.eq_iff_iff]
  simp
theorem abin_gen {f : Nat → Nat → Nat} {op : BinOp} {t : TypeId} {x y : Operand} {h : AHeap} (ho : op = .add ∨ op = .mul) (hf : ∀ n m : Nat, Int.ofNat (f n m) = match (generalizing := false) op with | .add => Int.ofNat n + Int.ofNat m | .sub => Int.ofNat n - Int.ofNat m | _ => Int.ofNat n * Int.ofNat m)
    (k : IntKind) (n m : Nat) (hlt : f n m < lim k) : abin P op t x y (.int k (.ofNat n)) (.int k (.ofNat m)) h = some (.int k (.ofNat (f n m))) := by
  rw [abin_arith (ho.imp id .inr), ← hf, wrap_lim _ _ hlt]
theorem abin_sub {t : TypeId} {x y : Operand} {h : AHeap} (k : IntKind) (n m : Nat) (hle : m ≤ n) (hlt : n < lim k) : abin P .sub t x y (.int k (.ofNat n)) (.int k (.ofNat m)) h = some (.int k (.ofNat (n - m))) := by
  rw [abin_arith (.inr (.inl rfl))]
  simp only
  rw [show (Int.ofNat n - Int.ofNat m : Int) = Int.ofNat (n - m) by simp only [Int.ofNat_eq_natCast]; omega, wrap_lim _ _ (by omega)]
end
/-- What is done with two values, else something else. -/
structure BinK where
  run : Value → Value → OutK → (Value → OutK) → OutK
def natsK (kb : IntKind) (a b : Value) (D : OutK) (k : Nat → Nat → OutK) : OutK :=
  asNat a D fun k1 n => asNat b D fun k2 m => cd ((kindC kb).run k1) (cd ((kindC kb).run k2) (k n m) D) D
theorem natsK_spec (kb : IntKind) (a b : Value) (D : OutK) (k : Nat → Nat → OutK) : natsK kb a b D k = D ∨ ∃ n m, a = .int kb (.ofNat n) ∧ b = .int kb (.ofNat m) ∧ natsK kb a b D k = k n m := by
  unfold natsK
  rcases asNat_cases a D (fun k1 n => asNat b D fun k2 m => cd ((kindC kb).run k1) (cd ((kindC kb).run k2) (k n m) D) D) with e | ⟨k1, n, rfl, e⟩
  · exact .inl e
  rw [e]
  rcases asNat_cases b D (fun k2 m => cd ((kindC kb).run k1) (cd ((kindC kb).run k2) (k n m) D) D) with e | ⟨k2, m, rfl, e⟩
  · exact .inl e
  rw [e]
  cases h1 : (kindC kb).run k1 with
  | false => exact .inl rfl
  | true =>
    cases h2 : (kindC kb).run k2 with
    | false => exact .inl rfl
    | true =>
      have := kindC_eq _ _ h1
      subst this
      have := kindC_eq _ _ h2
      subst this
      exact .inr ⟨n, m, rfl, rfl, rfl⟩
def arithK (f : Nat → Nat → Nat) (kb : IntKind) : BinK := ⟨fun a b D k => natsK kb a b D fun n m => natK (f n m) fun z => cd (Nat.blt z (lim kb)) (k (.int kb (.ofNat z))) D⟩
def subK (kb : IntKind) : BinK := ⟨fun a b D k => natsK kb a b D fun n m => cd (Nat.ble m n) (cd (Nat.blt n (lim kb)) (natK (Nat.sub n m) fun z => k (.int kb (.ofNat z))) D) D⟩
def cmpK (f : Nat → Nat → Bool) (kb : IntKind) : BinK := ⟨fun a b D k => natsK kb a b D fun n m => cd (f n m) (k (.bool true)) (k (.bool false))⟩
def intK (kb : IntKind) (op : BinOp) : BinK :=
  match op with
  | .add => arithK Nat.add kb
  | .mul => arithK Nat.mul kb
  | .sub => subK kb
  | .eql => cmpK Nat.beq kb
  | .neq => cmpK (fun n m => not (Nat.beq n m)) kb
  | .lss => cmpK Nat.blt kb
  | .leq => cmpK Nat.ble kb
  | .gtr => cmpK (fun n m => Nat.blt m n) kb
  | .geq => cmpK (fun n m => Nat.ble m n) kb
  | _ => ⟨fun _ _ D _ => D⟩
section
variable [Sg] {P : Program}
def BinOk (P : Program) (op : BinOp) (t : TypeId) (s : BinK) : Prop := ∀ a b D k, s.run a b D k = D ∨ ∃ v, s.run a b D k = k v ∧ ∀ x y h, abin P op t x y a b h = some v
theorem arithK_ok {f : Nat → Nat → Nat} {op : BinOp} {t : TypeId} (ho : op = .add ∨ op = .mul) (hf : ∀ n m : Nat, Int.ofNat (f n m) = match (generalizing := false) op with | .add => Int.ofNat n + Int.ofNat m | .sub => Int.ofNat n - Int.ofNat m | _ => Int.ofNat n * Int.ofNat m) (kb : IntKind) : BinOk P op t (arithK f kb) := by
  intro a b D k
  rcases natsK_spec kb a b D (fun n m => natK (f n m) fun z => cd (Nat.blt z (lim kb)) (k (.int kb (.ofNat z))) D) with e | ⟨n, m, rfl, rfl, e⟩
  · exact .inl e
  · have e2 : (arithK f kb).run (.int kb (.ofNat n)) (.int kb (.ofNat m)) D k = natK (f n m) fun z => cd (Nat.blt z (lim kb)) (k (.int kb (.ofNat z))) D := e
    rw [e2, natK_eq]
    cases h3 : Nat.blt (f n m) (lim kb) with
    | false => exact .inl rfl
    | true =>
      simp only [Nat.blt] at h3
      exact .inr ⟨_, rfl, fun x y h => abin_gen ho hf kb n m (Nat.le_of_ble_eq_true h3)⟩
theorem subK_ok {t : TypeId} (kb : IntKind) : BinOk P .sub t (subK kb) := by
  intro a b D k
  rcases natsK_spec kb a b D (fun n m => cd (Nat.ble m n) (cd (Nat.blt n (lim kb)) (natK (Nat.sub n m) fun z => k (.int kb (.ofNat z))) D) D) with e | ⟨n, m, rfl, rfl, e⟩
  · exact .inl e
  · have e2 : (subK kb).run (.int kb (.ofNat n)) (.int kb (.ofNat m)) D k = cd (Nat.ble m n) (cd (Nat.blt n (lim kb)) (natK (Nat.sub n m) fun z => k (.int kb (.ofNat z))) D) D := e
    rw [e2]
    cases h3 : Nat.ble m n with
    | false => exact .inl rfl
    | true =>
      cases h4 : Nat.blt n (lim kb) with
      | false => exact .inl rfl
      | true =>
        simp only [Nat.blt] at h4
        refine .inr ⟨.int kb (.ofNat (n - m)), by rw [cd_eq, cond_true, cd_eq, cond_true, natK_eq]; rfl, fun x y h => abin_sub kb n m (Nat.le_of_ble_eq_true h3) (Nat.le_of_ble_eq_true h4)⟩
theorem cmpK_ok {op : BinOp} {t : TypeId} {f : Nat → Nat → Bool} (ho : op = .eql ∨ op = .neq ∨ op = .lss ∨ op = .leq ∨ op = .gtr ∨ op = .geq)
    (hf : ∀ n m : Nat, f n m = match (generalizing := false) op with | .eql => Int.ofNat n == Int.ofNat m | .neq => Int.ofNat n != Int.ofNat m | .lss => decide (Int.ofNat n < Int.ofNat m) | .leq => decide (Int.ofNat n ≤ Int.ofNat m) | .gtr => decide (Int.ofNat n > Int.ofNat m) | _ => decide (Int.ofNat n ≥ Int.ofNat m))
    (kb : IntKind) : BinOk P op t (cmpK f kb) := by
  intro a b D k
  rcases natsK_spec kb a b D (fun n m => cd (f n m) (k (.bool true)) (k (.bool false))) with e | ⟨n, m, rfl, rfl, e⟩
  · exact .inl e
  · have e2 : (cmpK f kb).run (.int kb (.ofNat n)) (.int kb (.ofNat m)) D k = cd (f n m) (k (.bool true)) (k (.bool false)) := e
    rw [e2]
    refine .inr ⟨.bool (f n m), by cases f n m <;> rfl, fun x y h => ?_⟩
    rw [abin_cmp ho, ← hf]
theorem intK_ok {op : BinOp} {t : TypeId} (kb : IntKind) : BinOk P op t (intK kb op) := by
  unfold intK
  split
  · exact arithK_ok (.inl rfl) (fun n m => rfl) _
  · exact arithK_ok (.inr rfl) (fun n m => rfl) _
  · exact subK_ok _
  · exact cmpK_ok (by simp) (fun n m => beq_int n m) _
  · exact cmpK_ok (by simp) (fun n m => by show (!(Nat.beq n m)) = !(Int.ofNat n == Int.ofNat m); rw [beq_int]) _
  · exact cmpK_ok (by simp) (fun n m => blt_int n m) _
  · exact cmpK_ok (by simp) (fun n m => ble_int n m) _
  · exact cmpK_ok (by simp) (fun n m => blt_int m n) _
  · exact cmpK_ok (by simp) (fun n m => ble_int m n) _
  · exact fun a b D k => .inl rfl
end
end
end Go.Ab
namespace Go.Ab
open Go.RowKit
set_option linter.unusedVariables false
set_option linter.unusedSectionVars false
set_option linter.unusedSimpArgs false

noncomputable section
variable [Sg]

theorem blt_if {β : Type} (i j : Nat) (x y : β) : cond (Nat.blt i j) x y = if i < j then x else y := by
  by_cases h : i < j
  · rw [if_pos h, Nat.blt, Nat.ble_eq_true_of_le h]; rfl
  · rw [if_neg h]
    cases hb : Nat.blt i j with
    | false => rfl
    | true => exact absurd (Nat.le_of_ble_eq_true hb) h
theorem ble_if {β : Type} (i j : Nat) (x y : β) : cond (Nat.ble i j) x y = if i ≤ j then x else y := by
  by_cases h : i ≤ j
  · rw [if_pos h, Nat.ble_eq_true_of_le h]; rfl
  · rw [if_neg h]
    cases hb : Nat.ble i j with
    | false => rfl
    | true => exact absurd (Nat.le_of_ble_eq_true hb) h

theorem blt_cd (i j : Nat) (x y : OutK) : cd (Nat.blt i j) x y = if i < j then x else y := by rw [cd_eq, blt_if]
theorem ble_cd (i j : Nat) (x y : OutK) : cd (Nat.ble i j) x y = if i ≤ j then x else y := by rw [cd_eq, ble_if]
abbrev Res := Exit × E3 × AHeap
def obK {α : Type} (x : Option α) (k : α → OutK) : OutK := @Option.rec α (fun _ => OutK) none k x
theorem obK_some {α : Type} {x : Option α} {k : α → OutK} {r : Res} (h : obK x k = some r) : ∃ a, x = some a ∧ k a = some r := by
  cases x with
  | none => cases h
  | some a => exact ⟨a, rfl, h⟩
/-- Where a slot's value is found while a region is done: among the region's own (by the place at which it was laid), or it is a thing known ahead. -/
inductive Src where
  | loc (i : Nat)
  | opd (x : Operand)
structure Sc where
  m : List (Nat × Src)
  n : Nat
def findS : List (Nat × Src) → Nat → Option Src
  | [], _ => none
  | (t, s) :: r, u => if t = u then some s else findS r u
/-- What an operand holds, by a frame's slots. -/
def base (K : Nat) (e : E3) : Operand → Option Value
  | .tmp t => lkd e t
  | .const v => if clean v = true then some v else none
  | .global g => if g < K then some (.pointer (some ⟨g, 0, none⟩)) else none
  | .func f => some (.func (.func f) #[] #[])
/-- .. behind some of a region's operations. -/
def rho (K : Nat) (σ : Sc) (e : E3) (l : List Value) : Operand → Option Value
  | .tmp t => match findS σ.m t with
    | some (.loc i) => l[σ.n - 1 - i]?
    | some (.opd x) => base K e x
    | none => lkd e t
  | x => base K e x
def Cov (K : Nat) (σ : Sc) (e : E3) (l : List Value) (ρ : Env) : Prop := ∀ x v, rho K σ e l x = some v → ρ x = some v
structure ValK where
  run : E3 → List Value → (Value → OutK) → OutK
def baseK (K : Nat) : Operand → ValK
  | .tmp t => ⟨fun e _ k => (getK t).run e k⟩
  | .const v => cond (clean v) ⟨fun _ _ k => k v⟩ ⟨fun _ _ _ => none⟩
  | .global g => cond (Nat.blt g K) ⟨fun _ _ k => k (.pointer (some ⟨g, 0, none⟩))⟩ ⟨fun _ _ _ => none⟩
  | .func f => ⟨fun _ _ k => k (.func (.func f) #[] #[])⟩
theorem baseK_spec {K : Nat} {x : Operand} {e : E3} {l : List Value} {k : Value → OutK} {r : Res} (h : (baseK K x).run e l k = some r) : ∃ v, base K e x = some v ∧ k v = some r := by
  cases x with
  | tmp t => exact getK_spec h
  | const v =>
    simp only [baseK] at h
    cases hc : clean v with
    | false => rw [hc] at h; cases h
    | true => rw [hc] at h; exact ⟨v, by simp only [base, hc, if_true], h⟩
  | global g =>
    simp only [baseK, blt_if] at h
    split at h
    · rename_i hg; exact ⟨_, by simp only [base, hg, if_true], h⟩
    · cases h
  | func f => exact ⟨_, rfl, h⟩
/-- The n-th of a region's own. -/
def locK : Nat → ValK
  | 0 => ⟨fun _ l k => @List.rec Value (fun _ => OutK) none (fun a _ _ => k a) l⟩
  | n + 1 => ⟨fun e l k => @List.rec Value (fun _ => OutK) none (fun _ l' _ => (locK n).run e l' k) l⟩
theorem locK_spec {e : E3} {k : Value → OutK} {r : Res} : ∀ (n : Nat) (l : List Value), (locK n).run e l k = some r → ∃ v, l[n]? = some v ∧ k v = some r
  | 0, [], h => by cases h
  | 0, a :: l, h => ⟨a, rfl, h⟩
  | n + 1, [], h => by cases h
  | n + 1, a :: l, h => by obtain ⟨v, h1, h2⟩ := locK_spec n l h; exact ⟨v, by simpa using h1, h2⟩
def srcK (K n : Nat) : Src → ValK
  | .loc i => locK (n - 1 - i)
  | .opd x => baseK K x
def valK (K : Nat) (σ : Sc) : Operand → ValK
  | .tmp t => match findS σ.m t with
    | some s => srcK K σ.n s
    | none => baseK K (.tmp t)
  | x => baseK K x
theorem valK_rho {K : Nat} {σ : Sc} {x : Operand} {e : E3} {l : List Value} {k : Value → OutK} {r : Res} (h : (valK K σ x).run e l k = some r) : ∃ v, rho K σ e l x = some v ∧ k v = some r := by
  cases x with
  | tmp t =>
    simp only [valK] at h
    simp only [rho]
    cases hf : findS σ.m t with
    | none => rw [hf] at h; exact baseK_spec h
    | some s =>
      rw [hf] at h
      cases s with
      | loc i => exact locK_spec _ _ h
      | opd x => exact baseK_spec h
  | const v => exact baseK_spec (K := K) (x := .const v) h
  | global g => exact baseK_spec (K := K) (x := .global g) h
  | func f => exact baseK_spec (K := K) (x := .func f) h
theorem valK_spec {K : Nat} {σ : Sc} {x : Operand} {e : E3} {l : List Value} {ρ : Env} {k : Value → OutK} {r : Res} (hv : Cov K σ e l ρ) (h : (valK K σ x).run e l k = some r) : ∃ v, ρ x = some v ∧ k v = some r := by
  obtain ⟨v, h1, h2⟩ := valK_rho h
  exact ⟨v, hv _ _ h1, h2⟩
structure AvK where
  run : E3 → List Value → (List Value → OutK) → OutK
def avalsK (K : Nat) (σ : Sc) : List Operand → AvK
  | [] => ⟨fun _ _ k => k []⟩
  | x :: r => ⟨fun e l k => (valK K σ x).run e l fun v => (avalsK K σ r).run e l fun vs => k (v :: vs)⟩
theorem avalsK_spec {K : Nat} {σ : Sc} {e : E3} {l : List Value} {ρ : Env} {r : Res} (hv : Cov K σ e l ρ) : ∀ (xs : List Operand) (k : List Value → OutK), (avalsK K σ xs).run e l k = some r → ∃ vs, avals ρ xs = some vs ∧ k vs = some r
  | [], k, h => ⟨[], rfl, h⟩
  | x :: xs, k, h => by
    obtain ⟨v, h1, h2⟩ := valK_spec hv h
    obtain ⟨vs, h3, h4⟩ := avalsK_spec hv xs _ h2
    exact ⟨v :: vs, by simp only [avals, h1, h3], h4⟩
/-- All are known. -/
theorem avalsK_all {K : Nat} {σ : Sc} {e : E3} {l : List Value} {ρ : Env} {r : Res} (hv : Cov K σ e l ρ) : ∀ (xs : List Operand) (k : List Value → OutK), (avalsK K σ xs).run e l k = some r → (∀ x ∈ xs, ρ x = rho K σ e l x) ∧ ∃ vs, k vs = some r
  | [], k, h => ⟨fun x hx => by simp at hx, [], h⟩
  | x :: xs, k, h => by
    obtain ⟨v, h1, h2⟩ := valK_rho h
    obtain ⟨h3, vs, h4⟩ := avalsK_all hv xs _ h2
    refine ⟨fun y hy => ?_, _, h4⟩
    rcases List.mem_cons.1 hy with rfl | hy
    · rw [h1, hv _ _ h1]
    · exact h3 y hy

/-! ### Memory -/
def fcell (h : AHeap) (a : Addr) : Option Value :=
  @Option.rec Nat (fun _ => Option Value) (ob (fget h.m a.block) fun o => @AObj.rec (fun _ => Option Value) (fun c n _ => cond (Nat.blt a.off n) (fget c a.off) none) (fun _ _ => none) none o) (fun _ => none) a.spot
theorem fcell_eq (h : AHeap) (a : Addr) : fcell h a = h.cell? a := by
  unfold fcell AHeap.cell?
  cases hs : a.spot with
  | some s => rfl
  | none =>
    simp only [Option.isSome_none, Bool.false_eq_true, if_false, fget_eq]
    cases hB : h.m.get a.block with
    | none => rfl
    | some o =>
      cases o with
      | cells c n e =>
        show cond (Nat.blt a.off n) (c.get a.off) none = if a.off < n then c.get a.off else none
        exact blt_if _ _ _ _
      | map es cl => rfl
      | dead => rfl
/-- A memory with its numbers made plain. -/
def nrm (h : AHeap) (k : AHeap → OutK) : OutK := @AHeap.rec (fun _ => OutK) (fun m n r => natK n fun n => natK r fun r => k ⟨m, n, r⟩) h
theorem nrm_eq (h : AHeap) (k : AHeap → OutK) : nrm h k = k h := by cases h; simp only [nrm, natK_eq]
def fstoreK (h : AHeap) (a : Addr) (u : Value) (k : AHeap → OutK) : OutK :=
  @Option.rec Nat (fun _ => OutK) (obK (fget h.m a.block) fun o => @AObj.rec (fun _ => OutK) (fun c n e => cd (Nat.ble h.ro a.block) (cd (Nat.blt a.off n) (fsetK c a.off u fun c' => fsetK h.m a.block (.cells c' n e) fun m' => nrm ⟨m', h.next, h.ro⟩ k) none) none) (fun _ _ => none) none o) (fun _ => none) a.spot
theorem fstoreK_spec {h : AHeap} {a : Addr} {u : Value} {k : AHeap → OutK} {r : Res} (hu : u.oneCell' = true) (e : fstoreK h a u k = some r) : ∃ h1, h.store a [u] = some h1 ∧ k h1 = some r := by
  unfold fstoreK at e
  cases hs : a.spot with
  | some s => rw [hs] at e; cases e
  | none =>
    rw [hs] at e
    obtain ⟨o, h1, h2⟩ := obK_some (show obK _ _ = some r from e)
    rw [fget_eq] at h1
    cases o with
    | map es cl => cases h2
    | dead => cases h2
    | cells c n e' =>
      have h2 : cd (Nat.ble h.ro a.block) (cd (Nat.blt a.off n) (fsetK c a.off u fun c' => fsetK h.m a.block (.cells c' n e') fun m' => nrm ⟨m', h.next, h.ro⟩ k) none) none = some r := h2
      rw [blt_cd, ble_cd] at h2
      split at h2
      · rename_i h3
        split at h2
        · rename_i h4
          rw [fsetK_eq, fsetK_eq, nrm_eq] at h2
          refine ⟨_, ?_, h2⟩
          unfold AHeap.store
          simp only [List.isEmpty_cons, Bool.false_eq_true, if_false, hs, Option.isSome_none, h1, List.length_cons, List.length_nil, List.all_cons, List.all_nil, hu, Bool.and_true, PT.put]
          rw [if_pos ⟨h3, h4, trivial⟩]
        · cases h2
      · cases h2
def fnth {α : Type} (l : List α) (n : Nat) : Option α :=
  @List.rec α (fun _ => Nat → Option α) (fun _ => none) (fun a _ ih n => @Nat.rec (fun _ => Option α) (some a) (fun m _ => ih m) n) l n
theorem fnth_eq {α : Type} : ∀ (l : List α) (n : Nat), fnth l n = l[n]?
  | [], n => rfl
  | a :: l, 0 => rfl
  | a :: l, n + 1 => by show fnth l n = _; rw [fnth_eq l n]; rfl

structure BndK where
  run : E3 → List Value → Nat → (Nat → OutK) → OutK
def bndK (K : Nat) (σ : Sc) : Option Operand → BndK
  | none => ⟨fun _ _ d k => k d⟩
  | some x => ⟨fun e l _ k => (valK K σ x).run e l fun v => asNat v none fun _ n => k n⟩
theorem bndK_spec {K : Nat} {σ : Sc} {o : Option Operand} {e : E3} {l : List Value} {ρ : Env} {d : Nat} {k : Nat → OutK} {r : Res} (hv : Cov K σ e l ρ) (h : (bndK K σ o).run e l d k = some r) : ∃ n, k n = some r ∧ ((o = none ∧ n = d) ∨ ∃ kk, aopt ρ o = some (some (.int kk (.ofNat n)))) := by
  cases o with
  | none => exact ⟨d, h, .inl ⟨rfl, rfl⟩⟩
  | some x =>
    obtain ⟨v, h1, h2⟩ := valK_spec hv h
    rcases asNat_cases v none (fun _ n => k n) with e1 | ⟨kk, m, rfl, e1⟩
    · rw [e1] at h2; cases h2
    · rw [e1] at h2
      exact ⟨m, h2, .inr ⟨kk, by simp only [aopt, h1]⟩⟩
/-- The first n of a row, made plain. -/
def takeK {α : Type} (n : Nat) : List α → (List α → OutK) → OutK :=
  @Nat.rec (fun _ => List α → (List α → OutK) → OutK) (fun _ k => k []) (fun _ ih l k => @List.rec α (fun _ => OutK) (k []) (fun a l' _ => ih l' fun r => k (a :: r)) l) n
theorem takeK_eq {α : Type} : ∀ (n : Nat) (l : List α) (k : List α → OutK), takeK n l k = k (l.take n)
  | 0, l, k => by simp only [List.take_zero]; rfl
  | n + 1, [], k => by simp only [List.take_nil]; rfl
  | n + 1, a :: l, k => by
    show takeK n l (fun r => k (a :: r)) = _
    rw [takeK_eq n l]; rfl
theorem ext_take (s : ByteArray) (a b : Nat) : (⟨⟨(s.data.toList.drop a).take (b - a)⟩⟩ : ByteArray) = s.extract a b := by
  have h := Lib.extract_toList s a b
  rw [Lib.toList_data] at h
  apply ByteArray.ext
  rw [← Array.toList_inj, h]

/-- A row without its first ones; none: there are not so many. -/
def dropK {α : Type} (n : Nat) : List α → (List α → OutK) → OutK :=
  @Nat.rec (fun _ => List α → (List α → OutK) → OutK) (fun l k => k l) (fun _ ih l k => @List.rec α (fun _ => OutK) none (fun _ l' _ => ih l' k) l) n
theorem dropK_spec {α : Type} {r : Res} : ∀ (n : Nat) (l : List α) (k : List α → OutK), dropK n l k = some r → n ≤ l.length ∧ k (l.drop n) = some r
  | 0, l, k, h => ⟨Nat.zero_le _, by rw [List.drop_zero]; exact h⟩
  | n + 1, [], k, h => by cases h
  | n + 1, a :: l, k, h => by
    obtain ⟨h1, h2⟩ := dropK_spec n l k h
    exact ⟨by simpa using h1, by simpa using h2⟩
/-- So many of a row from a place on, one by one. -/
def fromK {α : Type} (l : List α) (n : Nat) : Nat → (List α → OutK) → OutK :=
  @Nat.rec (fun _ => Nat → (List α → OutK) → OutK) (fun _ k => k []) (fun _ ih i k => obK (fat l i) fun a => ih (Nat.succ i) fun r => k (a :: r)) n
theorem fromK_spec {α : Type} {l : List α} {r : Res} : ∀ (n i : Nat) (k : List α → OutK), fromK l n i k = some r → k ((l.drop i).take n) = some r
  | 0, i, k, h => by rw [List.take_zero]; exact h
  | n + 1, i, k, h => by
    obtain ⟨a, h1, h2⟩ := obK_some (show obK (fat l i) (fun a => fromK l n (Nat.succ i) fun r => k (a :: r)) = some r from h)
    rw [fat_eq] at h1
    have h3 := fromK_spec n (Nat.succ i) _ h2
    have hlt : i < l.length := (List.getElem?_eq_some_iff.1 h1).1
    rw [List.drop_eq_getElem_cons hlt, List.take_succ_cons]
    rw [List.getElem?_eq_getElem hlt] at h1
    cases h1
    exact h3

/-! ### Operations -/
structure CallC where
  run : List Value → AHeap → Option (Value × AHeap)
variable {P : Program} {K : Nat} {X : Ext} {call : FuncId → CallC} {callA : ACall} {σ : Sc}
structure StepK where
  run : E3 → List Value → AHeap → (Value → AHeap → OutK) → OutK
def astepR (P : Program) (X : Ext) (callA : ACall) (op : Op) (ρ : Env) (h : AHeap) : Option (Value × AHeap) :=
  match aexec P X op ρ h with
  | none => none
  | some (.val v, h1) => some (v, h1)
  | some (.call f args, h1) => callA f args h1
def StepOk (P : Program) (K : Nat) (X : Ext) (callA : ACall) (σ : Sc) (op : Op) (s : StepK) : Prop := ∀ e q h k r ρ, Cov K σ e q ρ → s.run e q h k = some r → ∃ v h1, astepR P X callA op ρ h = some (v, h1) ∧ k v h1 = some r
/-- An operation, as it stands. -/
def genK (P : Program) (K : Nat) (X : Ext) (call : FuncId → CallC) (σ : Sc) (op : Op) : StepK := ⟨fun e q h k => (avalsK K σ op.operands.toList).run e q fun _ => obK (astepR P X (fun f a h => (call f).run a h) op (rho K σ e q) h) fun p => nrm p.2 fun h1 => k p.1 h1⟩
def CallLe (call : FuncId → CallC) (callA : ACall) : Prop := ∀ f a h r, (call f).run a h = some r → callA f a h = some r
theorem astepR_le (hc : CallLe call callA) {op : Op} {ρ : Env} {h : AHeap} {r : Value × AHeap} (e : astepR P X (fun f a h => (call f).run a h) op ρ h = some r) : astepR P X callA op ρ h = some r := by
  unfold astepR at e ⊢
  split at e
  · cases e
  · rename_i v h1 hx; exact e
  · rename_i f args h1 hx; exact hc _ _ _ _ e
theorem genK_ok (hc : CallLe call callA) (op : Op) : StepOk P K X callA σ op (genK P K X call σ op) := by
  intro e q h k r ρ hv hr
  obtain ⟨h0, _, h1⟩ := avalsK_all hv _ _ hr
  obtain ⟨p, h2, h3⟩ := obK_some h1
  rw [nrm_eq] at h3
  have h4 := astepR_le hc h2
  have hcg : aexec P X op ρ h = aexec P X op (rho K σ e q) h := aexec_congr fun x hx => h0 x (by simpa using hx)
  refine ⟨p.1, p.2, ?_, h3⟩
  unfold astepR at h4 ⊢
  rw [hcg]; exact h4
/-- Either the fast way or as it stands. -/
theorem or_gen (hc : CallLe call callA) {op : Op} {e : E3} {q : List Value} {ρ : Env} (hv : Cov K σ e q ρ) {h : AHeap} {k : Value → AHeap → OutK} {r : Res} (hr : (genK P K X call σ op).run e q h k = some r) : ∃ v h1, astepR P X callA op ρ h = some (v, h1) ∧ k v h1 = some r := genK_ok hc op e q h k r ρ hv hr

def loadK (P : Program) (K : Nat) (X : Ext) (call : FuncId → CallC) (σ : Sc) (t : TypeId) (a : Operand) : StepK :=
  match P.underlying t with
  | none => genK P K X call σ (.load t a)
  | some d => match isAggB d with
    | true => match P.info? t with
      | none => genK P K X call σ (.load t a)
      | some i => ⟨fun e q h k => (valK K σ a).run e q fun v => asPtr v none fun p => obK (h.row? p i.size) fun l => k (.agg l.toArray) h⟩
    | false => ⟨fun e q h k => (valK K σ a).run e q fun v => asPtr v none fun p => obK (fcell h p) fun r => k r h⟩
theorem loadK_ok (hc : CallLe call callA) (t : TypeId) (a : Operand) : StepOk P K X callA σ (.load t a) (loadK P K X call σ t a) := by
  unfold loadK
  split
  · exact genK_ok hc _
  · rename_i d hu
    split
    · rename_i hd
      split
      · exact genK_ok hc _
      · rename_i i hi
        intro e q h k r ρ hv hr
        obtain ⟨v, h1, h2⟩ := valK_spec hv hr
        rcases asPtr_cases v none (fun p => obK (h.row? p i.size) fun l => k (.agg l.toArray) h) with ⟨e1, _⟩ | ⟨p, rfl, e1⟩
        · rw [e1] at h2; cases h2
        · rw [e1] at h2
          obtain ⟨l, h3, h4⟩ := obK_some h2
          exact ⟨_, _, by simp only [astepR, aexec, h1, aload, hu, hd, if_true, hi, h3], h4⟩
    · rename_i hd
      intro e q h k r ρ hv hr
      obtain ⟨v, h1, h2⟩ := valK_spec hv hr
      rcases asPtr_cases v none (fun p => obK (fcell h p) fun r => k r h) with ⟨e1, _⟩ | ⟨p, rfl, e1⟩
      · rw [e1] at h2; cases h2
      · rw [e1] at h2
        obtain ⟨l, h3, h4⟩ := obK_some h2
        rw [fcell_eq] at h3
        exact ⟨_, _, by simp only [astepR, aexec, h1, aload, hu, hd, Bool.false_eq_true, if_false, h3], h4⟩

def storeK (P : Program) (K : Nat) (X : Ext) (call : FuncId → CallC) (σ : Sc) (t : TypeId) (a x : Operand) : StepK :=
  match P.info? t with
  | none => genK P K X call σ (.store t a x)
  | some i => match Nat.beq i.size 1 with
    | true => ⟨fun e q h k => (valK K σ a).run e q fun v => asPtr v none fun p => (valK K σ x).run e q fun u => cd (oneC u) (fstoreK h p u fun h1 => k undef h1) ((genK P K X call σ (.store t a x)).run e q h k)⟩
    | false => ⟨fun e q h k => (valK K σ a).run e q fun v => asPtr v none fun p => (valK K σ x).run e q fun u => cd (Nat.beq u.cells.size i.size) (obK (h.store p u.cells.toList) fun h1 => nrm h1 fun h1 => k undef h1) none⟩
theorem storeK_ok (hc : CallLe call callA) (t : TypeId) (a x : Operand) : StepOk P K X callA σ (.store t a x) (storeK P K X call σ t a x) := by
  unfold storeK
  split
  · exact genK_ok hc _
  · rename_i i hi
    split
    · rename_i hs
      have hs1 : i.size = 1 := Nat.eq_of_beq_eq_true hs
      intro e q h k r ρ hv hr
      obtain ⟨v, h1, h2⟩ := valK_spec hv hr
      rcases asPtr_cases v none (fun p => (valK K σ x).run e q fun u => cd (oneC u) (fstoreK h p u fun h1 => k undef h1) ((genK P K X call σ (.store t a x)).run e q h k)) with ⟨e1, _⟩ | ⟨p, rfl, e1⟩
      · rw [e1] at h2; cases h2
      · rw [e1] at h2
        obtain ⟨u, h3, h4⟩ := valK_spec hv h2
        rw [oneC_eq] at h4
        cases ho : u.oneCell' with
        | false => rw [ho] at h4; exact or_gen hc hv h4
        | true =>
          rw [ho] at h4
          obtain ⟨h1', h5, h6⟩ := fstoreK_spec ho h4
          have hcl : u.cells = #[u] := by cases u <;> first | rfl | cases ho
          exact ⟨_, _, by simp only [astepR, aexec, h1, h3, astore, hi, hcl, hs1, List.size_toArray, List.length_cons, List.length_nil, Nat.zero_add, if_true, h5], h6⟩
    · intro e q h k r ρ hv hr
      obtain ⟨v, h1, h2⟩ := valK_spec hv hr
      rcases asPtr_cases v none (fun p => (valK K σ x).run e q fun u => cd (Nat.beq u.cells.size i.size) (obK (h.store p u.cells.toList) fun h1 => nrm h1 fun h1 => k undef h1) none) with ⟨e1, _⟩ | ⟨p, rfl, e1⟩
      · rw [e1] at h2; cases h2
      · rw [e1] at h2
        obtain ⟨u, h3, h4⟩ := valK_spec hv h2
        rw [beq_cd] at h4
        split at h4
        · rename_i hsz
          obtain ⟨h1', h5, h6⟩ := obK_some h4
          rw [nrm_eq] at h6
          exact ⟨_, _, by simp only [astepR, aexec, h1, h3, astore, hi, hsz, if_true, h5], h6⟩
        · cases h4

/-- The same bytes? -/
def beqL (l m : List UInt8) : Bool :=
  @List.rec UInt8 (fun _ => List UInt8 → Bool) (fun m => @List.rec UInt8 (fun _ => Bool) true (fun _ _ _ => false) m) (fun a _ ih m => @List.rec UInt8 (fun _ => Bool) false (fun b m' _ => cond (Nat.beq a.toNat b.toNat) (ih m') false) m) l m
theorem beqL_eq : ∀ l m : List UInt8, beqL l m = (l == m)
  | [], [] => rfl
  | [], _ :: _ => rfl
  | _ :: _, [] => rfl
  | a :: l, b :: m => by
    show cond (Nat.beq a.toNat b.toNat) (beqL l m) false = _
    rw [beqL_eq l m, List.cons_beq_cons]
    have : Nat.beq a.toNat b.toNat = (a == b) := by
      rw [Bool.eq_iff_iff, beq_iff_eq]
      constructor
      · intro h; exact UInt8.toNat_inj.1 (Nat.eq_of_beq_eq_true h)
      · intro h; rw [h]; simp
    rw [this]
    cases a == b <;> rfl
/-- Two rows, one behind the other, made plain. -/
def appK {α : Type} (l m : List α) (k : List α → OutK) : OutK :=
  @List.rec α (fun _ => (List α → OutK) → OutK) (fun k => k m) (fun a _ ih k => ih fun r => k (a :: r)) l k
theorem appK_eq {α : Type} (m : List α) : ∀ (l : List α) (k : List α → OutK), appK l m k = k (l ++ m)
  | [], k => rfl
  | a :: l, k => by
    show appK l m (fun r => k (a :: r)) = _
    rw [appK_eq m l]; rfl
def strK (op : BinOp) : BinK :=
  match op with
  | .eql => ⟨fun a b D k => asStr a D fun s => asStr b D fun u => cd (beqL s.data.toList u.data.toList) (k (.bool true)) (k (.bool false))⟩
  | .neq => ⟨fun a b D k => asStr a D fun s => asStr b D fun u => cd (beqL s.data.toList u.data.toList) (k (.bool false)) (k (.bool true))⟩
  | .add => ⟨fun a b D k => asStr a D fun s => asStr b D fun u => cd (Nat.blt (Nat.add s.data.toList.length u.data.toList.length) 4611686018427387904) (appK s.data.toList u.data.toList fun l => k (.string ⟨⟨l⟩⟩)) D⟩
  | _ => ⟨fun _ _ D _ => D⟩
theorem abin_str {op : BinOp} {t : TypeId} {x y : Operand} {a b : ByteArray} {h : AHeap} (ho : op = .eql ∨ op = .neq) : abin P op t x y (.string a) (.string b) h = some (.bool (match (generalizing := false) op with | .eql => a.toList == b.toList | _ => !(a.toList == b.toList))) := by
  rcases ho with rfl | rfl <;> rfl
theorem abin_cat {t : TypeId} {x y : Operand} {a b : ByteArray} {h : AHeap} (hs : a.size + b.size < 4611686018427387904) : abin P .add t x y (.string a) (.string b) h = some (.string (a ++ b)) := by
  have h1 : pureRun P (do eqGuard .add t x y (.string a) (.string b); binOp .add t (.string a) (.string b)) = some (.string (a ++ b)) := by
    show pureRun P (Op.stringOp .add a b) = _
    unfold Op.stringOp
    simp only
    rw [if_neg (by
      have : IntKind.i64.max = 9223372036854775807 := by decide
      omega)]
    rfl
  unfold abin
  rw [if_pos ⟨rfl, rfl⟩, h1]
  rfl
theorem strK_ok {op : BinOp} {t : TypeId} : BinOk P op t (strK op) := by
  have two : ∀ (a b : Value) (D : OutK) (k : ByteArray → ByteArray → OutK), asStr a D (fun s => asStr b D fun u => k s u) = D ∨ ∃ s u, a = .string s ∧ b = .string u ∧ asStr a D (fun s => asStr b D fun u => k s u) = k s u := by
    intro a b D k
    rcases asStr_cases a D (fun s => asStr b D fun u => k s u) with e | ⟨s, rfl, e⟩
    · exact .inl e
    · rcases asStr_cases b D (fun u => k s u) with e2 | ⟨u, rfl, e2⟩
      · exact .inl (by rw [e, e2])
      · exact .inr ⟨s, u, rfl, rfl, rfl⟩
  unfold strK
  split
  · intro a b D k
    rcases two a b D (fun s u => cd (beqL s.data.toList u.data.toList) (k (.bool true)) (k (.bool false))) with e | ⟨s, u, rfl, rfl, e⟩
    · exact .inl e
    · refine .inr ⟨.bool (s.data.toList == u.data.toList), ?_, fun x y h => ?_⟩
      · refine Eq.trans e ?_
        rw [beqL_eq]; cases s.data.toList == u.data.toList <;> rfl
      · rw [abin_str (.inl rfl)]; simp only [Lib.toList_data]
  · intro a b D k
    rcases two a b D (fun s u => cd (beqL s.data.toList u.data.toList) (k (.bool false)) (k (.bool true))) with e | ⟨s, u, rfl, rfl, e⟩
    · exact .inl e
    · refine .inr ⟨.bool (!(s.data.toList == u.data.toList)), ?_, fun x y h => ?_⟩
      · refine Eq.trans e ?_
        rw [beqL_eq]; cases s.data.toList == u.data.toList <;> rfl
      · rw [abin_str (.inr rfl)]; simp only [Lib.toList_data]
  · intro a b D k
    rcases two a b D (fun s u => cd (Nat.blt (Nat.add s.data.toList.length u.data.toList.length) 4611686018427387904) (appK s.data.toList u.data.toList fun l => k (.string ⟨⟨l⟩⟩)) D) with e | ⟨s, u, rfl, rfl, e⟩
    · exact .inl e
    · rw [blt_cd] at e
      split at e
      · rename_i hlt
        refine .inr ⟨.string (s ++ u), ?_, fun x y h => abin_cat hlt⟩
        refine Eq.trans e ?_
        rw [appK_eq]
        have : (⟨⟨s.data.toList ++ u.data.toList⟩⟩ : ByteArray) = s ++ u := by
          apply ByteArray.ext
          rw [ByteArray.data_append]
          simp
        rw [this]
      · exact .inl e
  · exact fun a b D k => .inl rfl
def binK (P : Program) (K : Nat) (X : Ext) (call : FuncId → CallC) (σ : Sc) (op : BinOp) (t : TypeId) (x y : Operand) (yt : TypeId) : StepK :=
  match P.underlying t with
  | some (.int kb) => ⟨fun e q h k => (valK K σ x).run e q fun a => (valK K σ y).run e q fun b => (intK kb op).run a b ((genK P K X call σ (.binOp op t x y yt)).run e q h k) fun v => k v h⟩
  | some .string => ⟨fun e q h k => (valK K σ x).run e q fun a => (valK K σ y).run e q fun b => (strK op).run a b ((genK P K X call σ (.binOp op t x y yt)).run e q h k) fun v => k v h⟩
  | _ => genK P K X call σ (.binOp op t x y yt)
theorem binK_ok (hc : CallLe call callA) (op : BinOp) (t : TypeId) (x y : Operand) (yt : TypeId) : StepOk P K X callA σ (.binOp op t x y yt) (binK P K X call σ op t x y yt) := by
  unfold binK
  split
  · rename_i kb hu
    intro e q h k r ρ hv hr
    obtain ⟨a, h1, h2⟩ := valK_spec hv hr
    obtain ⟨b, h3, h4⟩ := valK_spec hv h2
    rcases intK_ok (P := P) (op := op) (t := t) kb a b ((genK P K X call σ (.binOp op t x y yt)).run e q h k) (fun v => k v h) with e1 | ⟨v, e1, e2⟩
    · rw [e1] at h4; exact or_gen hc hv h4
    · rw [e1] at h4
      exact ⟨v, h, by simp only [astepR, aexec, h1, h3, e2], h4⟩
  · rename_i hu
    intro e q h k r ρ hv hr
    obtain ⟨a, h1, h2⟩ := valK_spec hv hr
    obtain ⟨b, h3, h4⟩ := valK_spec hv h2
    rcases strK_ok (P := P) (op := op) (t := t) a b ((genK P K X call σ (.binOp op t x y yt)).run e q h k) (fun v => k v h) with e1 | ⟨v, e1, e2⟩
    · rw [e1] at h4; exact or_gen hc hv h4
    · rw [e1] at h4
      exact ⟨v, h, by simp only [astepR, aexec, h1, h3, e2], h4⟩
  · exact genK_ok hc _

theorem pureRun_program : pureRun P program = some P := rfl
def convK (P : Program) (K : Nat) (X : Ext) (call : FuncId → CallC) (σ : Sc) (s d : TypeId) (x : Operand) : StepK :=
  match P.underlying s, P.underlying d with
  | some (.int _), some (.int kb) => ⟨fun e q h k => (valK K σ x).run e q fun v => asNat v ((genK P K X call σ (.convert s d x)).run e q h k) fun _ n =>
      cd (Nat.blt n (lim kb)) (k (.int kb (.ofNat n)) h) ((genK P K X call σ (.convert s d x)).run e q h k)⟩
  | _, _ => genK P K X call σ (.convert s d x)
theorem convK_ok (hc : CallLe call callA) (s d : TypeId) (x : Operand) : StepOk P K X callA σ (.convert s d x) (convK P K X call σ s d x) := by
  unfold convK
  split
  · rename_i k1 kb g1 g2
    intro e q h k r ρ hv hr
    obtain ⟨v, h1, h2⟩ := valK_spec hv hr
    rcases asNat_cases v ((genK P K X call σ (.convert s d x)).run e q h k) (fun _ n => cd (Nat.blt n (lim kb)) (k (.int kb (.ofNat n)) h) ((genK P K X call σ (.convert s d x)).run e q h k)) with e1 | ⟨kk, n, rfl, e1⟩
    · rw [e1] at h2; exact or_gen hc hv h2
    · rw [e1, blt_cd] at h2
      split at h2
      · rename_i hlt
        have h3 : pureRun P (convert s d (.int kk (Int.ofNat n))) = some (.int kb (.ofNat n)) := by
          have hw := wrap_lim kb n hlt
          have u1 : pureRun P (underlying s) = some (.int k1) := by simp [underlying, pureRun_bind, pureRun_program, g1]; rfl
          have u2 : pureRun P (underlying d) = some (.int kb) := by simp [underlying, pureRun_bind, pureRun_program, g2]; rfl
          unfold convert
          rw [pureRun_bind, u1, Option.bind_some, pureRun_bind, u2, Option.bind_some]
          simp only [Conv.intToInt, hw]
          rfl
        refine ⟨_, _, ?_, h2⟩
        simp only [astepR, aexec, h1, aconvert, h3]
        cases kb <;> cases kk <;> rfl
      · exact or_gen hc hv h2
  · exact genK_ok hc _

def fieldK (P : Program) (K : Nat) (X : Ext) (call : FuncId → CallC) (σ : Sc) (s : TypeId) (x : Operand) (f : Nat) : StepK :=
  match P.underlying s with
  | some (.struct fields) => match fields[f]? with
    | none => genK P K X call σ (.fieldAddr s x f)
    | some fd => match P.info? fd.type with
      | none => genK P K X call σ (.fieldAddr s x f)
      | some i => match Nat.beq i.size 0 with
        | true => genK P K X call σ (.fieldAddr s x f)
        | false => ⟨fun e q h k => (valK K σ x).run e q fun v => asPtr v none fun p => natK (Nat.add p.off fd.offset) fun z => k (.pointer (some ⟨p.block, z, none⟩)) h⟩
  | _ => genK P K X call σ (.fieldAddr s x f)
theorem fieldK_ok (hc : CallLe call callA) (s : TypeId) (x : Operand) (f : Nat) : StepOk P K X callA σ (.fieldAddr s x f) (fieldK P K X call σ s x f) := by
  unfold fieldK
  split
  · rename_i fields hu
    split
    · exact genK_ok hc _
    · rename_i fd hf
      split
      · exact genK_ok hc _
      · rename_i i hi
        split
        · exact genK_ok hc _
        · rename_i hz
          have hnz : ¬ i.size = 0 := fun h0 => by rw [h0] at hz; cases hz
          intro e q h k r ρ hv hr
          obtain ⟨v, h1, h2⟩ := valK_spec hv hr
          rcases asPtr_cases v none (fun p => natK (Nat.add p.off fd.offset) fun z => k (.pointer (some ⟨p.block, z, none⟩)) h) with ⟨e1, _⟩ | ⟨p, rfl, e1⟩
          · rw [e1] at h2; cases h2
          · rw [e1, natK_eq] at h2
            exact ⟨_, _, by simp only [astepR, aexec, h1, afieldAt, hu, hf, hi, hnz, if_false, Nat.add_eq], h2⟩
  · exact genK_ok hc _

theorem idx_if {n len : Nat} : (0 ≤ Int.ofNat n ∧ Int.ofNat n < (len : Int)) ↔ n < len := by
  constructor
  · intro h; have := h.2; simp only [Int.ofNat_eq_natCast] at this; omega
  · intro h; exact ⟨by simp, by simp only [Int.ofNat_eq_natCast]; omega⟩
def idxAddrK (P : Program) (K : Nat) (X : Ext) (call : FuncId → CallC) (σ : Sc) (t : TypeId) (x i : Operand) : StepK :=
  match P.underlying t with
  | some (.slice elem) => match P.info? elem with
    | none => genK P K X call σ (.indexAddr t x i)
    | some ei => ⟨fun e q h k => (valK K σ x).run e q fun v => (valK K σ i).run e q fun u => asSlc v none fun a len _ =>
        asNat u none fun _ n => cd (Nat.blt n len) (natK (Nat.add a.off (Nat.mul n ei.size)) fun z => k (.pointer (some ⟨a.block, z, none⟩)) h) none⟩
  | some (.array len elem) => match P.info? elem with
    | none => genK P K X call σ (.indexAddr t x i)
    | some ei => ⟨fun e q h k => (valK K σ x).run e q fun v => (valK K σ i).run e q fun u => asPtr v none fun a =>
        asNat u none fun _ n => cd (Nat.blt n len) (natK (Nat.add a.off (Nat.mul n ei.size)) fun z => k (.pointer (some ⟨a.block, z, none⟩)) h) none⟩
  | _ => genK P K X call σ (.indexAddr t x i)
theorem idxAddrK_ok (hc : CallLe call callA) (t : TypeId) (x i : Operand) : StepOk P K X callA σ (.indexAddr t x i) (idxAddrK P K X call σ t x i) := by
  unfold idxAddrK
  split
  · rename_i elem hu
    split
    · exact genK_ok hc _
    · rename_i ei hi
      intro e q h k r ρ hv hr
      obtain ⟨v, h1, h2⟩ := valK_spec hv hr
      obtain ⟨u, h3, h4⟩ := valK_spec hv h2
      rcases asSlc_cases v none (fun a len _ => asNat u none fun _ n => cd (Nat.blt n len) (natK (Nat.add a.off (Nat.mul n ei.size)) fun z => k (.pointer (some ⟨a.block, z, none⟩)) h) none) with e1 | ⟨a, len, c, rfl, e1⟩
      · rw [e1] at h4; cases h4
      · rw [e1] at h4
        rcases asNat_cases u none (fun _ n => cd (Nat.blt n len) (natK (Nat.add a.off (Nat.mul n ei.size)) fun z => k (.pointer (some ⟨a.block, z, none⟩)) h) none) with e2 | ⟨kk, n, rfl, e2⟩
        · rw [e2] at h4; cases h4
        · rw [e2, blt_cd] at h4
          split at h4
          · rename_i hlt
            rw [natK_eq] at h4
            exact ⟨_, _, by simp only [astepR, aexec, h1, h3, aindexAt, hu, hi, idx_if, hlt, if_true]; rfl, h4⟩
          · cases h4
  · rename_i len elem hu
    split
    · exact genK_ok hc _
    · rename_i ei hi
      intro e q h k r ρ hv hr
      obtain ⟨v, h1, h2⟩ := valK_spec hv hr
      obtain ⟨u, h3, h4⟩ := valK_spec hv h2
      rcases asPtr_cases v none (fun a => asNat u none fun _ n => cd (Nat.blt n len) (natK (Nat.add a.off (Nat.mul n ei.size)) fun z => k (.pointer (some ⟨a.block, z, none⟩)) h) none) with ⟨e1, _⟩ | ⟨a, rfl, e1⟩
      · rw [e1] at h4; cases h4
      · rw [e1] at h4
        rcases asNat_cases u none (fun _ n => cd (Nat.blt n len) (natK (Nat.add a.off (Nat.mul n ei.size)) fun z => k (.pointer (some ⟨a.block, z, none⟩)) h) none) with e2 | ⟨kk, n, rfl, e2⟩
        · rw [e2] at h4; cases h4
        · rw [e2, blt_cd] at h4
          split at h4
          · rename_i hlt
            rw [natK_eq] at h4
            exact ⟨_, _, by simp only [astepR, aexec, h1, h3, aindexAt, hu, hi, idx_if, hlt, if_true]; rfl, h4⟩
          · cases h4
  · exact genK_ok hc _

def idxK (P : Program) (K : Nat) (X : Ext) (call : FuncId → CallC) (σ : Sc) (t : TypeId) (x i : Operand) : StepK :=
  match P.underlying t with
  | some .string => ⟨fun e q h k => (valK K σ x).run e q fun v => (valK K σ i).run e q fun u => asStr v none fun s => asNat u none fun _ n => obK (fat s.data.toList n) fun b => natK b.toNat fun z => k (.int .u8 (.ofNat z)) h⟩
  | _ => genK P K X call σ (.index t x i)
theorem idxK_ok (hc : CallLe call callA) (t : TypeId) (x i : Operand) : StepOk P K X callA σ (.index t x i) (idxK P K X call σ t x i) := by
  unfold idxK
  split
  · rename_i hu
    intro e q h k r ρ hv hr
    obtain ⟨v, h1, h2⟩ := valK_spec hv hr
    obtain ⟨u, h3, h4⟩ := valK_spec hv h2
    rcases asStr_cases v none (fun s => asNat u none fun _ n => obK (fat s.data.toList n) fun b => natK b.toNat fun z => k (.int .u8 (.ofNat z)) h) with e1 | ⟨s, rfl, e1⟩
    · rw [e1] at h4; cases h4
    · rw [e1] at h4
      rcases asNat_cases u none (fun _ n => obK (fat s.data.toList n) fun b => natK b.toNat fun z => k (.int .u8 (.ofNat z)) h) with e2 | ⟨kk, n, rfl, e2⟩
      · rw [e2] at h4; cases h4
      · rw [e2] at h4
        obtain ⟨b, h5, h6⟩ := obK_some h4
        rw [fat_eq, Array.getElem?_toList] at h5
        rw [natK_eq] at h6
        have h0 : (0 : Int) ≤ Int.ofNat n := by simp
        refine ⟨_, _, ?_, h6⟩
        simp only [astepR, aexec, h1, h3, aindex, hu, h0, if_true]
        rw [show (Int.ofNat n).toNat = n from rfl, h5]
        rfl
  · exact genK_ok hc _

theorem aopt_none (ρ : Env) : aopt ρ none = some none := rfl
def sliceK (P : Program) (K : Nat) (X : Ext) (call : FuncId → CallC) (σ : Sc) (t : TypeId) (x : Operand) (lo hi mx : Option Operand) : StepK :=
  match P.underlying t, mx with
  | some .string, none => match hi with
    | none => ⟨fun e q h k => (valK K σ x).run e q fun v => asStr v none fun s => (bndK K σ lo).run e q 0 fun l => dropK l s.data.toList fun b => k (.string ⟨⟨b⟩⟩) h⟩
    | some y => ⟨fun e q h k => (valK K σ x).run e q fun v => asStr v none fun s => (bndK K σ lo).run e q 0 fun l => (bndK K σ (some y)).run e q 0 fun r =>
      cd (Nat.ble l r) (cd (Nat.ble r s.data.toList.length) (cd (Nat.blt l 64) (takeK (Nat.sub r l) (s.data.toList.drop l) fun b => k (.string ⟨⟨b⟩⟩) h) (fromK s.data.toList (Nat.sub r l) l fun b => k (.string ⟨⟨b⟩⟩) h)) none) none⟩
  | _, _ => genK P K X call σ (.slice t x lo hi mx)
theorem sliceK_ok (hc : CallLe call callA) (t : TypeId) (x : Operand) (lo hi mx : Option Operand) : StepOk P K X callA σ (.slice t x lo hi mx) (sliceK P K X call σ t x lo hi mx) := by
  unfold sliceK
  split
  · rename_i hu
    have fin : ∀ (ρ : Env) (h : AHeap) (s : ByteArray) (l m : Nat) (hi : Option Operand), ρ x = some (.string s) → l ≤ m → m ≤ s.size → ((lo = none ∧ l = 0) ∨ ∃ kk, aopt ρ lo = some (some (.int kk (.ofNat l)))) →
        ((hi = none ∧ m = s.size) ∨ ∃ kk, aopt ρ hi = some (some (.int kk (.ofNat m)))) → astepR P X callA (.slice t x lo hi none) ρ h = some (.string (s.extract l m), h) := by
      intro ρ h s l m hi h1 g1 g2 hlo hhi
      have i1 : (0 : Int) ≤ Int.ofNat l ∧ Int.ofNat l ≤ (m : Int) := ⟨by simp, by simp only [Int.ofNat_eq_natCast]; omega⟩
      have i2 : (0 : Int) ≤ Int.ofNat m ∧ Int.ofNat m ≤ (s.size : Int) := ⟨by simp, by simp only [Int.ofNat_eq_natCast]; omega⟩
      rcases hlo with ⟨rfl, rfl⟩ | ⟨k1, hlo⟩
      · rcases hhi with ⟨rfl, rfl⟩ | ⟨k2, hhi⟩
        · simp only [astepR, aexec, h1, aopt_none, asliceAt, hu, abounds, optInt]
        · simp only [astepR, aexec, h1, hhi, aopt_none, asliceAt, hu, abounds, optInt, i2, and_self, if_true]
          rfl
      · rcases hhi with ⟨rfl, rfl⟩ | ⟨k2, hhi⟩
        · simp only [astepR, aexec, h1, hlo, aopt_none, asliceAt, hu, abounds, optInt, i1, and_self, if_true]
          rfl
        · simp only [astepR, aexec, h1, hlo, hhi, aopt_none, asliceAt, hu, abounds, optInt, i2, and_self, if_true]
          rw [show (Int.ofNat m).toNat = m from rfl]
          simp only [i1, and_self, if_true]
          rfl
    split
    · intro e q h k r ρ hv hr
      obtain ⟨v, h1, h2⟩ := valK_spec hv hr
      rcases asStr_cases v none (fun s => (bndK K σ lo).run e q 0 fun l => dropK l s.data.toList fun b => k (.string ⟨⟨b⟩⟩) h) with e1 | ⟨s, rfl, e1⟩
      · rw [e1] at h2; cases h2
      · rw [e1] at h2
        obtain ⟨l, h3, hlo⟩ := bndK_spec hv h2
        obtain ⟨h4, h5⟩ := dropK_spec _ _ _ h3
        have hd : (⟨⟨s.data.toList.drop l⟩⟩ : ByteArray) = s.extract l s.size := by
          rw [← ext_take, List.take_of_length_le (by rw [List.length_drop]; exact Nat.le_refl _)]
        rw [hd] at h5
        exact ⟨_, _, fin ρ h s l s.size none h1 h4 (Nat.le_refl _) hlo (.inl ⟨rfl, rfl⟩), h5⟩
    · rename_i y
      intro e q h k r ρ hv hr
      obtain ⟨v, h1, h2⟩ := valK_spec hv hr
      rcases asStr_cases v none (fun s => (bndK K σ lo).run e q 0 fun l => (bndK K σ (some y)).run e q 0 fun r =>
        cd (Nat.ble l r) (cd (Nat.ble r s.data.toList.length) (cd (Nat.blt l 64) (takeK (Nat.sub r l) (s.data.toList.drop l) fun b => k (.string ⟨⟨b⟩⟩) h) (fromK s.data.toList (Nat.sub r l) l fun b => k (.string ⟨⟨b⟩⟩) h)) none) none) with e1 | ⟨s, rfl, e1⟩
      · rw [e1] at h2; cases h2
      · rw [e1] at h2
        obtain ⟨l, h3, hlo⟩ := bndK_spec hv h2
        obtain ⟨m, h4, hhi⟩ := bndK_spec hv h3
        rw [ble_cd, ble_cd] at h4
        split at h4
        · rename_i g1
          split at h4
          · rename_i g2
            have h5 : k (.string (s.extract l m)) h = some r := by
              rw [← ext_take]
              rw [blt_cd] at h4
              split at h4
              · rw [takeK_eq] at h4; exact h4
              · exact fromK_spec _ _ _ h4
            exact ⟨_, _, fin ρ h s l m (some y) h1 g1 g2 hlo (hhi.imp (fun h => by cases h.1) id), h5⟩
          · cases h4
        · cases h4
  · exact genK_ok hc _

def extK (K : Nat) (σ : Sc) (x : Operand) (i : Nat) : StepK := ⟨fun e q h k => (valK K σ x).run e q fun v => asTup v none fun c => obK (fnth c.toList i) fun r => k r h⟩
theorem extK_ok (x : Operand) (i : Nat) : StepOk P K X callA σ (.extract x i) (extK K σ x i) := by
  intro e q h k r ρ hv hr
  obtain ⟨v, h1, h2⟩ := valK_spec hv hr
  rcases asTup_cases v none (fun c => obK (fnth c.toList i) fun r => k r h) with ⟨e1, _⟩ | ⟨c, rfl, e1⟩
  · rw [e1] at h2; cases h2
  · rw [e1] at h2
    obtain ⟨u, h3, h4⟩ := obK_some h2
    rw [fnth_eq, Array.getElem?_toList] at h3
    exact ⟨_, _, by simp only [astepR, aexec, h1, aextract, h3], h4⟩

def allocK (P : Program) (K : Nat) (X : Ext) (call : FuncId → CallC) (σ : Sc) (t : TypeId) : StepK :=
  match P.info? t with
  | none => genK P K X call σ (.alloc t)
  | some i => match i.zero with
    | none => genK P K X call σ (.alloc t)
    | some z => match z.cells.toList.all noAddr with
      | true => ⟨fun e q h k => natK h.ro fun r0 => natK h.next fun nx => k (.pointer (some ⟨nx, 0, none⟩)) ⟨h.m.set nx (.cells (PT.ofList z.cells.toList) z.cells.size t), Nat.succ nx, r0⟩⟩
      | false => genK P K X call σ (.alloc t)
theorem allocK_ok (hc : CallLe call callA) (t : TypeId) : StepOk P K X callA σ (.alloc t) (allocK P K X call σ t) := by
  unfold allocK
  split
  · exact genK_ok hc _
  · rename_i i hi
    split
    · exact genK_ok hc _
    · rename_i z hz
      split
      · rename_i ha
        intro e q h k r ρ hv hr
        have hr : natK h.ro (fun r0 => natK h.next (fun nx => k (.pointer (some ⟨nx, 0, none⟩)) ⟨h.m.set nx (.cells (PT.ofList z.cells.toList) z.cells.size t), Nat.succ nx, r0⟩)) = some r := hr
        rw [natK_eq, natK_eq] at hr
        exact ⟨_, _, by simp only [astepR, aexec, hi, hz, ha, or_true, if_true]; rfl, hr⟩
      · exact genK_ok hc _

def pickK (K : Nat) (σ : Sc) (c a b : Operand) : StepK := ⟨fun e q h k => (valK K σ c).run e q fun v => asBool v none fun t => cd t ((valK K σ a).run e q fun u => k u h) ((valK K σ b).run e q fun u => k u h)⟩
theorem pickK_ok (c a b : Operand) : StepOk P K X callA σ (.pick c a b) (pickK K σ c a b) := by
  intro e q h k r ρ hv hr
  obtain ⟨v, h1, h2⟩ := valK_spec hv hr
  rcases asBool_cases v none (fun t => cd t ((valK K σ a).run e q fun u => k u h) ((valK K σ b).run e q fun u => k u h)) with ⟨e1, _⟩ | ⟨t, rfl, e1⟩
  · rw [e1] at h2; cases h2
  · rw [e1] at h2
    cases t with
    | true => obtain ⟨u, h3, h4⟩ := valK_spec hv h2; exact ⟨_, _, by simp only [astepR, aexec, h1, h3], h4⟩
    | false => obtain ⟨u, h3, h4⟩ := valK_spec hv h2; exact ⟨_, _, by simp only [astepR, aexec, h1, h3], h4⟩

/-- The builtin len. -/
def lenK (P : Program) (K : Nat) (X : Ext) (call : FuncId → CallC) (σ : Sc) (c : Call) (x : Operand) : StepK :=
  match c.argTypes[0]? with
  | none => genK P K X call σ (.call c)
  | some t => match P.underlying t with
    | some .string => ⟨fun e q h k => (valK K σ x).run e q fun v => asStr v none fun s => natK s.data.toList.length fun z => k (.int .i64 (.ofNat z)) h⟩
    | some (.slice _) => ⟨fun e q h k => (valK K σ x).run e q fun v => asSlc v ((genK P K X call σ (.call c)).run e q h k) fun _ n _ => k (.int .i64 (.ofNat n)) h⟩
    | _ => genK P K X call σ (.call c)
theorem lenK_ok (hc : CallLe call callA) {c : Call} {x : Operand} (hcal : c.callee = .builtin .len) (ha : c.args.toList = [x]) : StepOk P K X callA σ (.call c) (lenK P K X call σ c x) := by
  unfold lenK
  split
  · exact genK_ok hc _
  · rename_i t ht
    split
    · rename_i hu
      intro e q h k r ρ hv hr
      obtain ⟨v, h1, h2⟩ := valK_spec hv hr
      rcases asStr_cases v none (fun s => natK s.data.toList.length fun z => k (.int .i64 (.ofNat z)) h) with e1 | ⟨s, rfl, e1⟩
      · rw [e1] at h2; cases h2
      · rw [e1, natK_eq] at h2
        exact ⟨_, _, by simp only [astepR, aexec, acall, ha, avals, h1, hcal, abuiltin, ht, alen, hu]; rfl, h2⟩
    · rename_i el hu
      intro e q h k r ρ hv hr
      obtain ⟨v, h1, h2⟩ := valK_spec hv hr
      rcases asSlc_cases v ((genK P K X call σ (.call c)).run e q h k) (fun _ n _ => k (.int .i64 (.ofNat n)) h) with e1 | ⟨a, n, cc, rfl, e1⟩
      · rw [e1] at h2; exact or_gen hc hv h2
      · rw [e1] at h2
        exact ⟨_, _, by simp only [astepR, aexec, acall, ha, avals, h1, hcal, abuiltin, ht, alen, hu]; rfl, h2⟩
    · exact genK_ok hc _

def callK (P : Program) (K : Nat) (X : Ext) (call : FuncId → CallC) (σ : Sc) (c : Call) : StepK :=
  match c.callee with
  | .value (.func g) => match hasBody P g with
    | true => ⟨fun e q h k => (avalsK K σ c.args.toList).run e q fun vs => obK ((call g).run vs h) fun p => @Prod.rec Value AHeap (fun _ => OutK) (fun v h1 => nrm h1 fun h1 => k v h1) p⟩
    | false => ⟨fun e q h k => (avalsK K σ c.args.toList).run e q fun vs => obK (X g vs h) fun p => @Prod.rec Value AHeap (fun _ => OutK) (fun v h1 => nrm h1 fun h1 => k v h1) p⟩
  | .builtin b => match b, c.args.toList with
    | .len, [x] => lenK P K X call σ c x
    | b, _ => ⟨fun e q h k => (avalsK K σ c.args.toList).run e q fun vs => obK (abuiltin P b c.argTypes vs h) fun p => @Prod.rec Value AHeap (fun _ => OutK) (fun v h1 => nrm h1 fun h1 => k v h1) p⟩
  | _ => genK P K X call σ (.call c)
theorem callK_ok (hc : CallLe call callA) (c : Call) : StepOk P K X callA σ (.call c) (callK P K X call σ c) := by
  unfold callK
  split
  · rename_i g hcal
    split
    · rename_i hb
      intro e q h k r ρ hv hr
      obtain ⟨vs, h1, h2⟩ := avalsK_spec hv _ _ hr
      obtain ⟨⟨v, h1'⟩, h3, h4⟩ := obK_some h2
      have h4 : nrm h1' (fun h1 => k v h1) = some r := h4
      rw [nrm_eq] at h4
      refine ⟨v, h1', ?_, h4⟩
      have hfn : ρ (.func g) = some (.func (.func g) #[] #[]) := hv _ _ rfl
      simp only [astepR, aexec, acall, h1, hcal, hfn, acallFunc, hb, if_true]
      have e2 : ((#[] : Array Value).toList ++ vs ++ (#[] : Array Value).toList) = vs := by simp
      rw [e2]
      exact hc _ _ _ _ h3
    · rename_i hb
      intro e q h k r ρ hv hr
      obtain ⟨vs, h1, h2⟩ := avalsK_spec hv _ _ hr
      obtain ⟨⟨v, h1'⟩, h3, h4⟩ := obK_some h2
      have h4 : nrm h1' (fun h1 => k v h1) = some r := h4
      rw [nrm_eq] at h4
      refine ⟨v, h1', ?_, h4⟩
      have hfn : ρ (.func g) = some (.func (.func g) #[] #[]) := hv _ _ rfl
      have e2 : ((#[] : Array Value).toList ++ vs ++ (#[] : Array Value).toList) = vs := by simp
      simp only [astepR, aexec, acall, h1, hcal, hfn, acallFunc, hb, Bool.false_eq_true, if_false, e2, h3]
  · rename_i b hcal
    split
    · rename_i x hargs
      exact lenK_ok hc hcal hargs
    · intro e q h k r ρ hv hr
      obtain ⟨vs, h1, h2⟩ := avalsK_spec hv _ _ hr
      obtain ⟨⟨v, h1'⟩, h3, h4⟩ := obK_some h2
      have h4 : nrm h1' (fun h1 => k v h1) = some r := h4
      rw [nrm_eq] at h4
      exact ⟨v, h1', by simp only [astepR, aexec, acall, h1, hcal, h3], h4⟩
  · exact genK_ok hc _

def stepK (P : Program) (K : Nat) (X : Ext) (call : FuncId → CallC) (σ : Sc) (op : Op) : StepK :=
  match op with
  | .move x => ⟨fun e q h k => (valK K σ x).run e q fun v => k v h⟩
  | .assign x => ⟨fun e q h k => (valK K σ x).run e q fun v => k v h⟩
  | .pick c a b => pickK K σ c a b
  | .load t a => loadK P K X call σ t a
  | .store t a x => storeK P K X call σ t a x
  | .binOp op t x y yt => binK P K X call σ op t x y yt
  | .convert s d x => convK P K X call σ s d x
  | .fieldAddr s x f => fieldK P K X call σ s x f
  | .indexAddr t x i => idxAddrK P K X call σ t x i
  | .index t x i => idxK P K X call σ t x i
  | .slice t x lo hi mx => sliceK P K X call σ t x lo hi mx
  | .extract x i => extK K σ x i
  | .alloc t => allocK P K X call σ t
  | .call c => callK P K X call σ c
  | op => genK P K X call σ op
theorem stepK_ok (hc : CallLe call callA) (op : Op) : StepOk P K X callA σ op (stepK P K X call σ op) := by
  unfold stepK
  split
  · intro e q h k r ρ hv hr
    obtain ⟨v, h1, h2⟩ := valK_spec hv hr
    exact ⟨_, _, by simp only [astepR, aexec, h1], h2⟩
  · intro e q h k r ρ hv hr
    obtain ⟨v, h1, h2⟩ := valK_spec hv hr
    exact ⟨_, _, by simp only [astepR, aexec, h1], h2⟩
  · exact pickK_ok _ _ _
  · exact loadK_ok hc _ _
  · exact storeK_ok hc _ _ _
  · exact binK_ok hc _ _ _ _ _
  · exact convK_ok hc _ _ _
  · exact fieldK_ok hc _ _ _
  · exact idxAddrK_ok hc _ _ _
  · exact idxK_ok hc _ _ _
  · exact sliceK_ok hc _ _ _ _ _
  · exact extK_ok _ _
  · exact allocK_ok hc _
  · exact callK_ok hc _
  · exact genK_ok hc _

/-! ### Regions -/
/-- Where slots are known from region to region. -/
def LeE (G : Nat → Bool) (e : E3) (p : PT Value) : Prop := (∀ t v, lkd e t = some v → p.get t = some v) ∧ ∀ t, G t = false → lkd e t = none
theorem LeE.cov {K : Nat} {G : Nat → Bool} {e : E3} {p : PT Value} (h : LeE G e p) : Cov K ⟨[], 0⟩ e [] (aval K p) := by
  intro x v hx
  cases x with
  | tmp t => exact h.1 t v hx
  | const u => exact hx
  | global g => exact hx
  | func f => exact hx
/-- The region's own are where they are said to be. -/
def Good (K : Nat) (σ : Sc) (l : List Value) : Prop := l.length = σ.n ∧ ∀ t s, findS σ.m t = some s → match s with
  | .loc i => i < σ.n
  | .opd x => match x with
    | .const c => clean c = true
    | _ => False
def pushS (σ : Sc) (d : Option Tmp) : Sc := match d with
  | none => σ
  | some d => ⟨(d, .loc σ.n) :: σ.m, σ.n + 1⟩
def pushV (d : Option Tmp) (v : Value) (l : List Value) : List Value := match d with
  | none => l
  | some _ => v :: l
theorem cov_push {K : Nat} {σ : Sc} {e : E3} {l : List Value} {p : PT Value} (hg : Good K σ l) (hv : Cov K σ e l (aval K p)) (d : Option Tmp) (v : Value) :
    Good K (pushS σ d) (pushV d v l) ∧ Cov K (pushS σ d) e (pushV d v l) (aval K (aput p d v)) := by
  cases d with
  | none => exact ⟨hg, hv⟩
  | some d =>
    refine ⟨⟨by simp only [pushV, pushS, List.length_cons, hg.1], fun t s hs => ?_⟩, fun x u hx => ?_⟩
    · simp only [pushS, findS] at hs
      split at hs
      · cases hs; exact Nat.lt_succ_self _
      · have := hg.2 t s hs
        cases s with
        | loc i => exact Nat.lt_succ_of_lt this
        | opd x => exact this
    · cases x with
      | tmp t =>
        simp only [rho, pushS, pushV, findS] at hx
        show (p.set d v).get t = some u
        rw [PT.get_set]
        by_cases hd : d = t
        · subst hd
          rw [if_pos rfl]
          simp only [if_true] at hx
          rw [show σ.n + 1 - 1 - σ.n = 0 by omega] at hx
          simpa using hx
        · rw [if_neg hd]
          rw [if_neg hd] at hx
          refine hv (.tmp t) u ?_
          simp only [rho]
          cases hf : findS σ.m t with
          | none => rw [hf] at hx; exact hx
          | some s =>
            rw [hf] at hx
            have hgs := hg.2 t s hf
            cases s with
            | loc i =>
              have hi : i < σ.n := hgs
              simp only at hx ⊢
              rw [show σ.n + 1 - 1 - i = (σ.n - 1 - i) + 1 by omega, List.getElem?_cons_succ] at hx
              exact hx
            | opd x => exact hx
      | const w => exact hv (.const w) u hx
      | global g => exact hv (.global g) u hx
      | func f => exact hv (.func f) u hx
/-- A move of what is known without looking. -/
def aliasOf (σ : Sc) : Op → Option Src
  | .move x | .assign x => match x with
    | .tmp t => findS σ.m t
    | .const v => if clean v = true then some (.opd (.const v)) else none
    | _ => none
  | _ => none
def aliasS (σ : Sc) (d : Option Tmp) (s : Src) : Sc := match d with
  | none => σ
  | some d => ⟨(d, s) :: σ.m, σ.n⟩
theorem cov_alias {K : Nat} {X : Ext} {σ : Sc} {e : E3} {l : List Value} {p : PT Value} (hg : Good K σ l) (hv : Cov K σ e l (aval K p)) {op : Op} {s : Src} (ha : aliasOf σ op = some s) (d : Option Tmp) (h : AHeap) :
    ∃ v, astepR P X callA op (aval K p) h = some (v, h) ∧ Good K (aliasS σ d s) l ∧ Cov K (aliasS σ d s) e l (aval K (aput p d v)) := by
  have key : ∃ x, (op = .move x ∨ op = .assign x) ∧ ((∃ t, x = .tmp t ∧ findS σ.m t = some s) ∨ ∃ c, x = .const c ∧ clean c = true ∧ s = .opd (.const c)) := by
    have aux : ∀ x : Operand, (match x with | .tmp t => findS σ.m t | .const v => if clean v = true then some (Src.opd (.const v)) else none | _ => none) = some s → (∃ t, x = .tmp t ∧ findS σ.m t = some s) ∨ ∃ c, x = .const c ∧ clean c = true ∧ s = .opd (.const c) := by
      intro x hx
      cases x with
      | tmp t => exact .inl ⟨t, rfl, hx⟩
      | const c =>
        simp only at hx
        split at hx
        · rename_i hc; cases hx; exact .inr ⟨c, rfl, hc, rfl⟩
        · cases hx
      | global g => cases hx
      | func f => cases hx
    cases op with
    | move x => exact ⟨x, .inl rfl, aux x ha⟩
    | assign x => exact ⟨x, .inr rfl, aux x ha⟩
    | _ => cases ha
  obtain ⟨x, hop, hx⟩ := key
  -- the value
  have hval : ∃ v, (match s with | .loc i => l[σ.n - 1 - i]? | .opd y => base K e y) = some v ∧ aval K p x = some v := by
    rcases hx with ⟨t, rfl, hf⟩ | ⟨c, rfl, hc, rfl⟩
    · have hgs := hg.2 t s hf
      cases s with
      | loc i =>
        have hi : i < σ.n := hgs
        have hlt : σ.n - 1 - i < l.length := by have := hg.1; omega
        refine ⟨l[σ.n - 1 - i], List.getElem?_eq_getElem hlt, hv (.tmp t) _ ?_⟩
        simp only [rho, hf]
        exact List.getElem?_eq_getElem hlt
      | opd y =>
        cases y with
        | const c =>
          have hc : clean c = true := hgs
          have hb : base K e (.const c) = some c := by simp only [base, hc, if_true]
          exact ⟨c, hb, hv (.tmp t) c (by simp only [rho, hf, hb])⟩
        | _ => exact hgs.elim
    · exact ⟨c, by simp only [base, hc, if_true], by simp only [aval, hc, if_true]⟩
  obtain ⟨v, hs, hpv⟩ := hval
  refine ⟨v, ?_, ?_⟩
  · rcases hop with rfl | rfl <;> simp only [astepR, aexec, hpv]
  · cases d with
    | none => exact ⟨hg, hv⟩
    | some d =>
      refine ⟨⟨hg.1, fun t s' hs' => ?_⟩, fun y u hy => ?_⟩
      · simp only [aliasS, findS] at hs'
        split at hs'
        · cases hs'
          rcases hx with ⟨t', rfl, hf⟩ | ⟨c, rfl, hc, rfl⟩
          · exact hg.2 t' s hf
          · exact hc
        · exact hg.2 t s' hs'
      · cases y with
        | tmp t =>
          simp only [rho, aliasS, findS] at hy
          show (p.set d v).get t = some u
          rw [PT.get_set]
          by_cases hd : d = t
          · subst hd
            rw [if_pos rfl]
            simp only [if_true] at hy
            rw [← hs]
            cases s <;> exact hy
          · rw [if_neg hd]
            rw [if_neg hd] at hy
            exact hv (.tmp t) u hy
        | const w => exact hv (.const w) u hy
        | global g => exact hv (.global g) u hy
        | func f => exact hv (.func f) u hy

structure FinK where
  run : E3 → List Value → E3 → (E3 → OutK) → OutK
/-- What goes on to other regions, laid into the slots. -/
def finK (K : Nat) (G : Nat → Bool) (n : Nat) : List (Nat × Src) → FinK
  | [] => ⟨fun _ _ e1 k => k e1⟩
  | (t, s) :: r => match G t with
    | false => finK K G n r
    | true => ⟨fun e q e1 k => (finK K G n r).run e q e1 fun e2 => (srcK K n s).run e q fun v => (putK t).run v e2 k⟩
def srcV (K n : Nat) (e : E3) (q : List Value) : Src → Option Value
  | .loc i => q[n - 1 - i]?
  | .opd x => base K e x
theorem srcK_spec {K n : Nat} {s : Src} {e : E3} {q : List Value} {k : Value → OutK} {r : Res} (h : (srcK K n s).run e q k = some r) : ∃ v, srcV K n e q s = some v ∧ k v = some r := by
  cases s with
  | loc i => exact locK_spec _ _ h
  | opd x => exact baseK_spec h
theorem lkd_upd3 (e : E3) (i j : Nat) (v : Value) (hi : i < 512) : lkd (upd3 e i v) j = if j = i then some v else lkd e j := by
  unfold lkd
  by_cases hj : j < 512
  · rw [if_pos hj, if_pos hj, lk_upd3 _ _ _ _ hi hj]
  · rw [if_neg hj, if_neg hj, if_neg (by omega)]
theorem finK_spec {K n : Nat} {G : Nat → Bool} {e : E3} {q : List Value} {r : Res} : ∀ (m : List (Nat × Src)) (e1 : E3) (k : E3 → OutK), (finK K G n m).run e q e1 k = some r →
    ∃ e2, k e2 = some r ∧ ∀ t, (∀ s, findS m t = some s → G t = true → ∃ v, srcV K n e q s = some v ∧ lkd e2 t = some v) ∧ ((findS m t = none ∨ G t = false) → lkd e2 t = lkd e1 t)
  | [], e1, k, h => ⟨e1, h, fun t => ⟨fun s hs => by simp [findS] at hs, fun _ => rfl⟩⟩
  | (t0, s0) :: m, e1, k, h => by
    simp only [finK] at h
    split at h
    · rename_i hG
      obtain ⟨e2, h1, h2⟩ := finK_spec m e1 k h
      refine ⟨e2, h1, fun t => ⟨fun s hs hg => ?_, fun hs => ?_⟩⟩
      · simp only [findS] at hs
        split at hs
        · rename_i ht; subst ht; rw [hG] at hg; cases hg
        · exact (h2 t).1 s hs hg
      · refine (h2 t).2 ?_
        rcases hs with hs | hs
        · simp only [findS] at hs
          split at hs
          · cases hs
          · exact .inl hs
        · exact .inr hs
    · rename_i hG
      obtain ⟨e2, h1, h2⟩ := finK_spec m e1 _ h
      obtain ⟨v, h3, h4⟩ := srcK_spec h1
      obtain ⟨h5, h6⟩ := putK_spec h4
      refine ⟨_, h6, fun t => ⟨fun s hs hg => ?_, fun hs => ?_⟩⟩
      · rw [lkd_upd3 _ _ _ _ h5]
        simp only [findS] at hs
        split at hs
        · rename_i ht; cases hs; exact ⟨v, h3, if_pos ht.symm⟩
        · rename_i ht
          rw [if_neg (fun h => ht h.symm)]
          exact (h2 t).1 s hs hg
      · rw [lkd_upd3 _ _ _ _ h5]
        have hne : ¬ t = t0 := by
          rintro rfl
          rcases hs with hs | hs
          · simp [findS] at hs
          · rw [hG] at hs; cases hs
        rw [if_neg hne]
        refine (h2 t).2 ?_
        rcases hs with hs | hs
        · simp only [findS] at hs
          rw [if_neg (fun h => hne h.symm)] at hs
          exact .inl hs
        · exact .inr hs
theorem fin_le {K : Nat} {G : Nat → Bool} {σ : Sc} {e : E3} {q : List Value} {p : PT Value} {k : E3 → OutK} {r : Res} (hv : Cov K σ e q (aval K p)) (hG : ∀ t, G t = false → lkd e t = none) (h : (finK K G σ.n σ.m).run e q e k = some r) : ∃ e', k e' = some r ∧ LeE G e' p := by
  obtain ⟨e2, h1, h2⟩ := finK_spec _ _ _ h
  refine ⟨e2, h1, fun t v ht => ?_, fun t ht => by rw [(h2 t).2 (.inr ht)]; exact hG t ht⟩
  cases hg : G t with
  | false => rw [(h2 t).2 (.inr hg), hG t hg] at ht; cases ht
  | true =>
    refine hv (.tmp t) v ?_
    simp only [rho]
    cases hf : findS σ.m t with
    | none => rw [(h2 t).2 (.inl hf)] at ht; exact ht
    | some s =>
      obtain ⟨u, h3, h4⟩ := (h2 t).1 s hf hg
      rw [h4] at ht; cases ht
      cases s <;> exact h3
structure PushK where
  run : Value → List Value → (List Value → OutK) → OutK
def pushK : Option Tmp → PushK
  | none => ⟨fun _ q k => k q⟩
  | some _ => ⟨fun v q k => k (v :: q)⟩
theorem pushK_eq (d : Option Tmp) (v : Value) (q : List Value) (k : List Value → OutK) : (pushK d).run v q k = k (pushV d v q) := by cases d <;> rfl
structure OpsK where
  run : E3 → List Value → AHeap → (E3 → AHeap → OutK) → OutK
def opsK (P : Program) (K : Nat) (X : Ext) (call : FuncId → CallC) (G : Nat → Bool) (ops : Array Oper) : List Oper → Sc → OpsK
  | [], σ => ⟨fun e q h k => (finK K G σ.n σ.m).run e q e fun e1 => k e1 h⟩
  | o :: r, σ => match o.guard with
    | none => match aliasOf σ o.op with
      | some s => opsK P K X call G ops r (aliasS σ o.dst s)
      | none => ⟨fun e q h k => (stepK P K X call σ o.op).run e q h fun v h1 => (pushK o.dst).run v q fun q1 => (opsK P K X call G ops r (pushS σ o.dst)).run e q1 h1 k⟩
    | some (j, want) => match (ops[j]?).bind (·.dst) with
      | none => ⟨fun _ _ _ _ => none⟩
      | some d => ⟨fun e q h k => (valK K σ (.tmp d)).run e q fun g => asBool g (asTup g none fun _ => (pushK o.dst).run undef q fun q1 => (opsK P K X call G ops r (pushS σ o.dst)).run e q1 h k) fun b =>
          cd (b == want) ((stepK P K X call σ o.op).run e q h fun v h1 => (pushK o.dst).run v q fun q1 => (opsK P K X call G ops r (pushS σ o.dst)).run e q1 h1 k) ((pushK o.dst).run undef q fun q1 => (opsK P K X call G ops r (pushS σ o.dst)).run e q1 h k)⟩
theorem opsK_ok (hc : CallLe call callA) {G : Nat → Bool} {ops : Array Oper} {e : E3} (hG : ∀ t, G t = false → lkd e t = none) : ∀ (l : List Oper) (σ : Sc) (q : List Value) (h : AHeap) (k : E3 → AHeap → OutK) (r : Res) (p : PT Value), (opsK P K X call G ops l σ).run e q h k = some r → Good K σ q → Cov K σ e q (aval K p) →
    ∃ e' p' h', aops P K X callA ops l p h = some (p', h') ∧ LeE G e' p' ∧ k e' h' = some r
  | [], σ, q, h, k, r, p, hr, hg, hv => by
    obtain ⟨e', h1, h2⟩ := fin_le hv hG hr
    exact ⟨e', p, h, rfl, h2, h1⟩
  | o :: l, σ, q, h, k, r, p, hr, hg, hv => by
    have go : awanted ops o p = some true → ((stepK P K X call σ o.op).run e q h fun v h1 => (pushK o.dst).run v q fun q1 => (opsK P K X call G ops l (pushS σ o.dst)).run e q1 h1 k) = some r →
        ∃ e' p' h', aops P K X callA ops (o :: l) p h = some (p', h') ∧ LeE G e' p' ∧ k e' h' = some r := by
      intro hw hr
      obtain ⟨v, h1, h2, h3⟩ := stepK_ok hc o.op e q h _ r _ hv hr
      rw [pushK_eq] at h3
      obtain ⟨g1, g2⟩ := cov_push hg hv o.dst v
      obtain ⟨e', p', h', h6, h7, h8⟩ := opsK_ok hc hG l _ _ h1 k r _ h3 g1 g2
      refine ⟨e', p', h', ?_, h7, h8⟩
      have h9 : astep P K X callA o.op p h = some (v, h1) := h2
      simp only [aops, hw, h9, h6]
    have skip : awanted ops o p = some false → ((pushK o.dst).run undef q fun q1 => (opsK P K X call G ops l (pushS σ o.dst)).run e q1 h k) = some r →
        ∃ e' p' h', aops P K X callA ops (o :: l) p h = some (p', h') ∧ LeE G e' p' ∧ k e' h' = some r := by
      intro hw hr
      rw [pushK_eq] at hr
      obtain ⟨g1, g2⟩ := cov_push hg hv o.dst undef
      obtain ⟨e', p', h', h6, h7, h8⟩ := opsK_ok hc hG l _ _ h k r _ hr g1 g2
      exact ⟨e', p', h', by simp only [aops, hw, h6], h7, h8⟩
    simp only [opsK] at hr
    split at hr
    · rename_i hgd
      have hw : awanted ops o p = some true := by unfold awanted; rw [hgd]
      split at hr
      · rename_i s hs
        obtain ⟨v, h1, g1, g2⟩ := cov_alias (X := X) (P := P) (callA := callA) hg hv hs o.dst h
        obtain ⟨e', p', h', h6, h7, h8⟩ := opsK_ok hc hG l _ _ h k r _ hr g1 g2
        refine ⟨e', p', h', ?_, h7, h8⟩
        have h9 : astep P K X callA o.op p h = some (v, h) := h1
        simp only [aops, hw, h9, h6]
      · exact go hw hr
    · rename_i j want hgd
      split at hr
      · cases hr
      · rename_i d hd
        obtain ⟨g, h1, h2⟩ := valK_spec hv hr
        have hget : p.get d = some g := h1
        rcases asBool_cases g (asTup g none fun _ => (pushK o.dst).run undef q fun q1 => (opsK P K X call G ops l (pushS σ o.dst)).run e q1 h k) (fun b =>
          cd (b == want) ((stepK P K X call σ o.op).run e q h fun v h1 => (pushK o.dst).run v q fun q1 => (opsK P K X call G ops l (pushS σ o.dst)).run e q1 h1 k) ((pushK o.dst).run undef q fun q1 => (opsK P K X call G ops l (pushS σ o.dst)).run e q1 h k)) with ⟨e1, _⟩ | ⟨b, rfl, e1⟩
        · rw [e1] at h2
          rcases asTup_cases g none (fun _ => (pushK o.dst).run undef q fun q1 => (opsK P K X call G ops l (pushS σ o.dst)).run e q1 h k) with ⟨e2, _⟩ | ⟨c, rfl, e2⟩
          · rw [e2] at h2; cases h2
          · rw [e2] at h2
            exact skip (by simp only [awanted, hgd, hd, hget]) h2
        · rw [e1] at h2
          cases hb : b == want with
          | true => rw [hb] at h2; exact go (by simp only [awanted, hgd, hd, hget, hb]) h2
          | false => rw [hb] at h2; exact skip (by simp only [awanted, hgd, hd, hget, hb]) h2
/-- In such a region each look at the memory has its place among the writings. -/
def regStill (ops : Array Oper) (B : Array Nat) : Bool := (List.range ops.size).all fun i => match ops[i]? with
  | some o => !quiet o.op || !reads o.op || (List.range ops.size).all fun m => match ops[m]? with
    | some p => quiet p.op || (B.getD i 0).testBit m || (B.getD m 0).testBit i
    | none => true
  | none => true
theorem arun_aops {call : ACall} {X : Ext} {K : Nat} {ops : Array Oper} : ∀ (l : List Oper) (e : PT Value) (h : AHeap),
    (match arun P K X call ops l e h with | none => none | some st => match st[l.length]? with | some s => some (s.e, s.h) | none => none) = aops P K X call ops l e h
  | [], e, h => rfl
  | o :: r, e, h => by
    simp only [arun, aops]
    cases awanted ops o e with
    | none => rfl
    | some b =>
      cases b with
      | false =>
        simp only
        rw [← arun_aops r]
        cases arun P K X call ops r (aput e o.dst undef) h <;> rfl
      | true =>
        simp only
        cases astep P K X call o.op e h with
        | none => rfl
        | some p =>
          obtain ⟨v, h1⟩ := p
          simp only
          rw [← arun_aops r]
          cases arun P K X call ops r (aput e o.dst v) h1 <;> rfl
theorem still_dyn {call : ACall} {X : Ext} {K : Nat} {ops : Array Oper} (ok : RegOk ops) (hs : regStill ops (Region.before ops) = true) {e : PT Value} {h : AHeap} {st : List RSt} (hst : arun P K X call ops ops.toList e h = some st) : dynOk P K X ops (Region.before ops) st = true := by
  obtain ⟨h1, h2, h3⟩ := arun_spec _ _ _ _ hst
  have r : Run P K X call ops e h st := ⟨by simpa using h1, h2, fun i o ho => h3 i o (by simpa using ho)⟩
  unfold dynOk
  refine List.all_eq_true.2 fun i hi => ?_
  have hi' := List.mem_range.1 hi
  obtain ⟨o, ho⟩ : ∃ o, ops[i]? = some o := ⟨ops[i], by simp [hi']⟩
  obtain ⟨s, t, g1, g2, g3⟩ := r.step i o ho
  rw [ho, g1]
  simp only [Bool.or_eq_true, Bool.not_eq_true']
  cases hq : quiet o.op with
  | false => exact .inl (.inl rfl)
  | true =>
    cases hr : reads o.op with
    | false => exact .inl (.inr rfl)
    | true =>
      right
      cases hw : awanted ops o s.e with
      | none => rfl
      | some b =>
        cases b with
        | false => rfl
        | true =>
          simp only
          refine List.all_eq_true.2 fun p hp => ?_
          cases hq2 : st[p]? with
          | none => rfl
          | some q =>
            simp only [Bool.or_eq_true, Bool.not_eq_true']
            cases hal : allowed ops (Region.before ops) i p with
            | false => exact .inl rfl
            | true =>
              right
              have hstill := List.all_eq_true.1 hs i hi
              rw [ho] at hstill
              simp only [hq, hr, Bool.not_true, Bool.false_or] at hstill
              have key : ∀ m om, ops[m]? = some om → quiet om.op = false → (m < p → m < i) ∧ (p ≤ m → i < m) := by
                intro m om hom hqm
                have hm := lt_of_get hom
                have a1 := List.all_eq_true.1 hstill m (List.mem_range.2 hm)
                rw [hom] at a1
                simp only [hqm, Bool.false_or, Bool.or_eq_true] at a1
                have a2 := List.all_eq_true.1 hal m (List.mem_range.2 hm)
                rw [hom] at a2
                simp only [hqm, Bool.false_or] at a2
                constructor
                · intro hlt
                  rw [if_pos hlt] at a2
                  rcases a1 with a1 | a1
                  · exact anc_lt ok a1
                  · rw [a1] at a2; cases a2
                · intro hge
                  rw [if_neg (by omega)] at a2
                  rcases a1 with a1 | a1
                  · rw [a1] at a2; cases a2
                  · exact anc_lt ok a1
              have hpl : p ≤ ops.size := by
                have := (List.getElem?_eq_some_iff.1 hq2).1
                have := r.len
                omega
              have hh : q.h = s.h := by
                rcases Nat.le_total p i with hle | hle
                · have := r.same hq2 (i - p) s (by omega) (by rw [show p + (i - p) = i by omega]; exact g1) (fun m om b1 b2 hom => by
                    cases hqm : quiet om.op with
                    | true => rfl
                    | false => have := (key m om hom hqm).2 b1; omega)
                  exact this.symm
                · exact r.same g1 (p - i) q (by omega) (by rw [show i + (p - i) = p by omega]; exact hq2) (fun m om b1 b2 hom => by
                    cases hqm : quiet om.op with
                    | true => rfl
                    | false => have := (key m om hom hqm).1 (by omega); omega)
              obtain ⟨_, hc | hc⟩ := g3
              · rw [hc.1] at hw; cases hw
              · have hs3 := hc.2
                unfold astep at hs3
                split at hs3
                · cases hs3
                · rename_i v1 h1' hx
                  cases hs3
                  rw [hh, hx]
                  exact veq_refl _
                · rename_i f args h1' hx
                  obtain ⟨_, v, hv⟩ := quiet_same hq hx
                  cases hv

/-- No writing operation between the places i and p. -/
def sameGap (ops : Array Oper) (i p : Nat) : Bool := (List.range ops.size).all fun m => match ops[m]? with
  | some o => quiet o.op || !(decide (min i p ≤ m) && decide (m < max i p))
  | none => true
/-- Which looks at the memory are to be asked again, and where. -/
def needs (ops : Array Oper) (B : Array Nat) : List (Nat × Nat) := (List.range ops.size).flatMap fun i => match ops[i]? with
  | some o => if quiet o.op && reads o.op then ((places' ops).filter fun p => allowed ops B i p && !sameGap ops i p).map fun p => (i, p) else []
  | none => []
abbrev Log := List (AHeap × (AHeap → Bool))
structure RecK where
  run : E3 → List Value → AHeap → Log → (E3 → AHeap → Log → OutK) → OutK
/-- Would an operation answer the same over another memory? -/
def askB (P : Program) (K : Nat) (X : Ext) (σ : Sc) (e : E3) (q : List Value) (op : Op) (v : Value) (h : AHeap) : Bool :=
  (op.operands.toList.all fun x => (rho K σ e q x).isSome) && match aexec P X op (rho K σ e q) h with
    | some (.val u, _) => veq u v
    | _ => false
theorem askB_spec {σ : Sc} {e : E3} {q : List Value} {ρ : Env} (hv : Cov K σ e q ρ) {op : Op} {v : Value} {h : AHeap} (ha : askB P K X σ e q op v h = true) : (match aexec P X op ρ h with | some (.val u, _) => veq u v | _ => false) = true := by
  simp only [askB, Bool.and_eq_true] at ha
  have hcg : aexec P X op ρ h = aexec P X op (rho K σ e q) h := aexec_congr fun x hx => by
    have := List.all_eq_true.1 ha.1 x (by simpa using hx)
    cases hr : rho K σ e q x with
    | none => rw [hr] at this; cases this
    | some u => exact hv x u hr
  rw [hcg]; exact ha.2
def recK (P : Program) (K : Nat) (X : Ext) (call : FuncId → CallC) (G : Nat → Bool) (ops : Array Oper) : List Oper → Sc → RecK
  | [], σ => ⟨fun e q h acc k => (finK K G σ.n σ.m).run e q e fun e1 => k e1 h ((h, fun _ => true) :: acc)⟩
  | o :: r, σ => match o.guard with
    | none => match aliasOf σ o.op with
      | some s => ⟨fun e q h acc k => (recK P K X call G ops r (aliasS σ o.dst s)).run e q h ((h, fun _ => true) :: acc) k⟩
      | none => ⟨fun e q h acc k => (stepK P K X call σ o.op).run e q h fun v h1 => (pushK o.dst).run v q fun q1 => (recK P K X call G ops r (pushS σ o.dst)).run e q1 h1 ((h, askB P K X σ e q o.op v) :: acc) k⟩
    | some (j, want) => match (ops[j]?).bind (·.dst) with
      | none => ⟨fun _ _ _ _ _ => none⟩
      | some d => ⟨fun e q h acc k => (valK K σ (.tmp d)).run e q fun g => asBool g (asTup g none fun _ => (pushK o.dst).run undef q fun q1 => (recK P K X call G ops r (pushS σ o.dst)).run e q1 h ((h, fun _ => true) :: acc) k) fun b =>
          cd (b == want) ((stepK P K X call σ o.op).run e q h fun v h1 => (pushK o.dst).run v q fun q1 => (recK P K X call G ops r (pushS σ o.dst)).run e q1 h1 ((h, askB P K X σ e q o.op v) :: acc) k) ((pushK o.dst).run undef q fun q1 => (recK P K X call G ops r (pushS σ o.dst)).run e q1 h ((h, fun _ => true) :: acc) k)⟩
/-- What is logged of an operation. -/
def LogOk (P : Program) (K : Nat) (X : Ext) (ops : Array Oper) (o : Oper) (a : AHeap × (AHeap → Bool)) (s : RSt) : Prop :=
  a.1 = s.h ∧ (reads o.op = true → awanted ops o s.e = some true → ∀ hp, a.2 hp = true → (match aexec P X o.op (aval K s.e) hp with | some (.val u, _) => veq u s.v | _ => false) = true)
def Al3 (P : Program) (K : Nat) (X : Ext) (ops : Array Oper) (l : List Oper) (g : Log) (st : List RSt) : Prop :=
  g.length = st.length ∧ (∀ (i : Nat) (a : AHeap × (AHeap → Bool)) (s : RSt), g[i]? = some a → st[i]? = some s → a.1 = s.h) ∧ ∀ (i : Nat) (o : Oper) (a : AHeap × (AHeap → Bool)) (s : RSt), l[i]? = some o → g[i]? = some a → st[i]? = some s → LogOk P K X ops o a s
theorem Al3.cons {ops : Array Oper} {l : List Oper} {g : Log} {st : List RSt} (h : Al3 P K X ops l g st) {o : Oper} {a : AHeap × (AHeap → Bool)} {s : RSt} (ha : LogOk P K X ops o a s) : Al3 P K X ops (o :: l) (a :: g) (s :: st) := by
  refine ⟨by simp [h.1], fun i a' s' h1 h2 => ?_, fun i o' a' s' h0 h1 h2 => ?_⟩
  · cases i with
    | zero => simp at h1 h2; subst h1; subst h2; exact ha.1
    | succ i => exact h.2.1 i a' s' (by simpa using h1) (by simpa using h2)
  · cases i with
    | zero => simp at h0 h1 h2; subst h0; subst h1; subst h2; exact ha
    | succ i => exact h.2.2 i o' a' s' (by simpa using h0) (by simpa using h1) (by simpa using h2)
theorem alias_reads {σ : Sc} {op : Op} {s : Src} (h : aliasOf σ op = some s) : reads op = false := by
  cases op <;> first | rfl | cases h
theorem recK_ok (hc : CallLe call callA) {G : Nat → Bool} {ops : Array Oper} {e : E3} (hG : ∀ t, G t = false → lkd e t = none) : ∀ (l : List Oper) (σ : Sc) (q : List Value) (h : AHeap) (acc : Log) (k : E3 → AHeap → Log → OutK) (r : Res) (p : PT Value), (recK P K X call G ops l σ).run e q h acc k = some r → Good K σ q → Cov K σ e q (aval K p) →
    ∃ e' p' h' g st, arun P K X callA ops l p h = some st ∧ st[l.length]? = some ⟨p', h', undef⟩ ∧ LeE G e' p' ∧ Al3 P K X ops l g st ∧ k e' h' (g.reverse ++ acc) = some r
  | [], σ, q, h, acc, k, r, p, hr, hg, hv => by
    obtain ⟨e', h1, h2⟩ := fin_le hv hG hr
    exact ⟨e', p, h, [(h, fun _ => true)], _, rfl, rfl, h2, ⟨rfl, fun i a s h1 h2 => by
      cases i with
      | zero => simp at h1 h2; subst h1; subst h2; rfl
      | succ i => simp at h1, fun i o a s h0 => by simp at h0⟩, h1⟩
  | o :: l, σ, q, h, acc, k, r, p, hr, hg, hv => by
    have go : awanted ops o p = some true → ((stepK P K X call σ o.op).run e q h fun v h1 => (pushK o.dst).run v q fun q1 => (recK P K X call G ops l (pushS σ o.dst)).run e q1 h1 ((h, askB P K X σ e q o.op v) :: acc) k) = some r →
        ∃ e' p' h' g st, arun P K X callA ops (o :: l) p h = some st ∧ st[(o :: l).length]? = some ⟨p', h', undef⟩ ∧ LeE G e' p' ∧ Al3 P K X ops (o :: l) g st ∧ k e' h' (g.reverse ++ acc) = some r := by
      intro hw hr
      obtain ⟨v, h1, h2, h3⟩ := stepK_ok hc o.op e q h _ r _ hv hr
      rw [pushK_eq] at h3
      obtain ⟨g1, g2⟩ := cov_push hg hv o.dst v
      obtain ⟨e', p', h', g, st, h6, h7, h8, h9, h10⟩ := recK_ok hc hG l _ _ h1 _ k r _ h3 g1 g2
      have h11 : astep P K X callA o.op p h = some (v, h1) := h2
      exact ⟨e', p', h', (h, askB P K X σ e q o.op v) :: g, ⟨p, h, v⟩ :: st, by simp only [arun, hw, h11, h6], by simpa using h7, h8, h9.cons ⟨rfl, fun _ _ hp ha => askB_spec hv ha⟩, by simpa using h10⟩
    have skip : awanted ops o p = some false → ((pushK o.dst).run undef q fun q1 => (recK P K X call G ops l (pushS σ o.dst)).run e q1 h ((h, fun _ => true) :: acc) k) = some r →
        ∃ e' p' h' g st, arun P K X callA ops (o :: l) p h = some st ∧ st[(o :: l).length]? = some ⟨p', h', undef⟩ ∧ LeE G e' p' ∧ Al3 P K X ops (o :: l) g st ∧ k e' h' (g.reverse ++ acc) = some r := by
      intro hw hr
      rw [pushK_eq] at hr
      obtain ⟨g1, g2⟩ := cov_push hg hv o.dst undef
      obtain ⟨e', p', h', g, st, h6, h7, h8, h9, h10⟩ := recK_ok hc hG l _ _ h _ k r _ hr g1 g2
      exact ⟨e', p', h', (h, fun _ => true) :: g, ⟨p, h, undef⟩ :: st, by simp only [arun, hw, h6], by simpa using h7, h8, h9.cons ⟨rfl, fun _ hw' => by simp only at hw'; rw [hw] at hw'; cases hw'⟩, by simpa using h10⟩
    simp only [recK] at hr
    split at hr
    · rename_i hgd
      have hw : awanted ops o p = some true := by unfold awanted; rw [hgd]
      split at hr
      · rename_i s hs
        obtain ⟨v, h1, g1, g2⟩ := cov_alias (X := X) (P := P) (callA := callA) hg hv hs o.dst h
        obtain ⟨e', p', h', g, st, h6, h7, h8, h9, h10⟩ := recK_ok hc hG l _ _ h _ k r _ hr g1 g2
        have h11 : astep P K X callA o.op p h = some (v, h) := h1
        exact ⟨e', p', h', (h, fun _ => true) :: g, ⟨p, h, v⟩ :: st, by simp only [arun, hw, h11, h6], by simpa using h7, h8, h9.cons ⟨rfl, fun hrd => by rw [alias_reads hs] at hrd; cases hrd⟩, by simpa using h10⟩
      · exact go hw hr
    · rename_i j want hgd
      split at hr
      · cases hr
      · rename_i d hd
        obtain ⟨g, h1, h2⟩ := valK_spec hv hr
        have hget : p.get d = some g := h1
        rcases asBool_cases g (asTup g none fun _ => (pushK o.dst).run undef q fun q1 => (recK P K X call G ops l (pushS σ o.dst)).run e q1 h ((h, fun _ => true) :: acc) k) (fun b =>
          cd (b == want) ((stepK P K X call σ o.op).run e q h fun v h1 => (pushK o.dst).run v q fun q1 => (recK P K X call G ops l (pushS σ o.dst)).run e q1 h1 ((h, askB P K X σ e q o.op v) :: acc) k) ((pushK o.dst).run undef q fun q1 => (recK P K X call G ops l (pushS σ o.dst)).run e q1 h ((h, fun _ => true) :: acc) k)) with ⟨e1, _⟩ | ⟨b, rfl, e1⟩
        · rw [e1] at h2
          rcases asTup_cases g none (fun _ => (pushK o.dst).run undef q fun q1 => (recK P K X call G ops l (pushS σ o.dst)).run e q1 h ((h, fun _ => true) :: acc) k) with ⟨e2, _⟩ | ⟨c, rfl, e2⟩
          · rw [e2] at h2; cases h2
          · rw [e2] at h2
            exact skip (by simp only [awanted, hgd, hd, hget]) h2
        · rw [e1] at h2
          cases hb : b == want with
          | true => rw [hb] at h2; exact go (by simp only [awanted, hgd, hd, hget, hb]) h2
          | false => rw [hb] at h2; exact skip (by simp only [awanted, hgd, hd, hget, hb]) h2
/-- A look at the memory, asked again elsewhere. -/
def again (g : Log) (ip : Nat × Nat) : Bool :=
  match fnth g ip.1, fnth g ip.2 with
  | some a, some b => a.2 b.1
  | _, _ => false
theorem again_dyn {ops : Array Oper} (ok : RegOk ops) {e : PT Value} {h : AHeap} {st : List RSt} (hst : arun P K X callA ops ops.toList e h = some st) {g : Log} (hl : Al3 P K X ops ops.toList g st)
    (hs : (needs ops (Region.before ops)).all (again g) = true) : dynOk P K X ops (Region.before ops) st = true := by
  obtain ⟨h1, h2, h3⟩ := arun_spec _ _ _ _ hst
  have r : Run P K X callA ops e h st := ⟨by simpa using h1, h2, fun i o ho => h3 i o (by simpa using ho)⟩
  unfold dynOk
  refine List.all_eq_true.2 fun i hi => ?_
  have hi' := List.mem_range.1 hi
  obtain ⟨o, ho⟩ : ∃ o, ops[i]? = some o := ⟨ops[i], by simp [hi']⟩
  obtain ⟨s, t, g1, g2, g3⟩ := r.step i o ho
  rw [ho, g1]
  simp only [Bool.or_eq_true, Bool.not_eq_true']
  cases hq : quiet o.op with
  | false => exact .inl (.inl rfl)
  | true =>
    cases hr : reads o.op with
    | false => exact .inl (.inr rfl)
    | true =>
      right
      cases hw : awanted ops o s.e with
      | none => rfl
      | some b =>
        cases b with
        | false => rfl
        | true =>
          simp only
          refine List.all_eq_true.2 fun p hp => ?_
          cases hq2 : st[p]? with
          | none => rfl
          | some q =>
            simp only [Bool.or_eq_true, Bool.not_eq_true']
            cases hal : allowed ops (Region.before ops) i p with
            | false => exact .inl rfl
            | true =>
              right
              have hpl : p ≤ ops.size := by
                have := (List.getElem?_eq_some_iff.1 hq2).1
                have := r.len
                omega
              obtain ⟨_, hcs | hcs⟩ := g3
              · rw [hcs.1] at hw; cases hw
              have hs3 := hcs.2
              cases hgap : sameGap ops i p with
              | true =>
                have gap := List.all_eq_true.1 hgap
                have quietIn : ∀ m om, min i p ≤ m → m < max i p → ops[m]? = some om → quiet om.op = true := by
                  intro m om b1 b2 hom
                  have := gap m (List.mem_range.2 (lt_of_get hom))
                  rw [hom] at this
                  simp only [Bool.or_eq_true, Bool.not_eq_true'] at this
                  rcases this with h | h
                  · exact h
                  · simp [b1, b2] at h
                have hh : q.h = s.h := by
                  rcases Nat.le_total p i with hle | hle
                  · have := r.same hq2 (i - p) s (by omega) (by rw [show p + (i - p) = i by omega]; exact g1) (fun m om b1 b2 hom => quietIn m om (by omega) (by omega) hom)
                    exact this.symm
                  · exact r.same g1 (p - i) q (by omega) (by rw [show i + (p - i) = p by omega]; exact hq2) (fun m om b1 b2 hom => quietIn m om (by omega) (by omega) hom)
                unfold astep at hs3
                split at hs3
                · cases hs3
                · rename_i v1 h1' hx
                  cases hs3
                  rw [hh, hx]
                  exact veq_refl _
                · rename_i f args h1' hx
                  obtain ⟨_, v, hv⟩ := quiet_same hq hx
                  cases hv
              | false =>
                have hmem : (i, p) ∈ needs ops (Region.before ops) := by
                  unfold needs
                  refine List.mem_flatMap.2 ⟨i, hi, ?_⟩
                  rw [ho]
                  simp only [hq, hr, Bool.and_self, if_true]
                  exact List.mem_map.2 ⟨p, List.mem_filter.2 ⟨hp, by simp [hal, hgap]⟩, rfl⟩
                have hag := List.all_eq_true.1 hs (i, p) hmem
                have li : i < g.length := by rw [hl.1]; exact (List.getElem?_eq_some_iff.1 g1).1
                have lp : p < g.length := by rw [hl.1]; exact (List.getElem?_eq_some_iff.1 hq2).1
                have e1 : g[i]? = some g[i] := List.getElem?_eq_getElem li
                have e2 : g[p]? = some g[p] := List.getElem?_eq_getElem lp
                have b2 := hl.2.1 p _ _ e2 hq2
                simp only [again, fnth_eq, e1, e2] at hag
                rw [b2] at hag
                exact (hl.2.2 i o _ _ (by simpa using ho) e1 g1).2 hr hw _ hag
def regK (P : Program) (K : Nat) (X : Ext) (call : FuncId → CallC) (G : Nat → Bool) (ops : Array Oper) (draw : Bool) : OpsK :=
  match draw with
  | false => opsK P K X call G ops ops.toList ⟨[], 0⟩
  | true => match regOkB ops with
    | false => ⟨fun _ _ _ _ => none⟩
    | true => match regStill ops (Region.before ops) with
      | true => opsK P K X call G ops ops.toList ⟨[], 0⟩
      | false => ⟨fun e q h k => (recK P K X call G ops ops.toList ⟨[], 0⟩).run e q h [] fun e' h' g => cd ((needs ops (Region.before ops)).all (again g.reverse)) (k e' h') none⟩
theorem regK_ok (hc : CallLe call callA) {G : Nat → Bool} {ops : Array Oper} {draw : Bool} {e : E3} {h : AHeap} {k : E3 → AHeap → OutK} {r : Res} {p : PT Value} (hr : (regK P K X call G ops draw).run e [] h k = some r) (hp : LeE G e p) :
    ∃ e' p' h', (if draw then adraw P K X callA ops p h else aops P K X callA ops ops.toList p h) = some (p', h') ∧ LeE G e' p' ∧ k e' h' = some r := by
  have g0 : Good K ⟨[], 0⟩ [] := ⟨rfl, fun t s hs => by simp [findS] at hs⟩
  unfold regK at hr
  cases draw with
  | false => exact opsK_ok hc hp.2 _ _ _ _ _ _ _ hr g0 hp.cov
  | true =>
    simp only at hr
    cases hb : regOkB ops with
    | false => rw [hb] at hr; cases hr
    | true =>
      rw [hb] at hr
      simp only at hr
      cases hstill : regStill ops (Region.before ops) with
      | true =>
        rw [hstill] at hr
        obtain ⟨e', p', h', h1, h2, h3⟩ := opsK_ok hc hp.2 _ _ _ _ _ _ _ hr g0 hp.cov
        refine ⟨e', p', h', ?_, h2, h3⟩
        rw [← arun_aops] at h1
        simp only [if_true]
        unfold adraw
        rw [if_pos hb]
        cases hst : arun P K X callA ops ops.toList p h with
        | none => rw [hst] at h1; cases h1
        | some st =>
          rw [hst] at h1
          simp only at h1 ⊢
          rw [if_pos (still_dyn (regOk_of hb) hstill hst)]
          simp only [Array.length_toList] at h1
          cases hq : st[ops.size]? with
          | none => rw [hq] at h1; cases h1
          | some s => rw [hq] at h1; exact h1
      | false =>
        rw [hstill] at hr
        obtain ⟨e', p', h', g, st, h1, h2, h3, h4, h5⟩ := recK_ok hc hp.2 _ _ _ _ _ _ _ _ hr g0 hp.cov
        simp only [List.append_nil, List.reverse_reverse] at h5
        cases hall : (needs ops (Region.before ops)).all (again g) with
        | false => rw [hall] at h5; cases h5
        | true =>
          rw [hall] at h5
          refine ⟨e', p', h', ?_, h3, h5⟩
          simp only [if_true]
          unfold adraw
          rw [if_pos hb, h1]
          simp only
          rw [if_pos (again_dyn (regOk_of hb) h1 h4 hall)]
          simp only [Array.length_toList] at h2
          rw [h2]

/-! ### Code -/
structure CodeK where
  run : E3 → AHeap → (E3 → AHeap → OutK) → OutK
/-- Leaves a block. -/
def blkK (id : Nat) (o : OutK) (k : E3 → AHeap → OutK) : OutK :=
  @Option.rec _ (fun _ => OutK) none (fun p => @Prod.rec Exit (E3 × AHeap) (fun _ => OutK) (fun x q => @Prod.rec E3 AHeap (fun _ => OutK) (fun e h =>
    @Exit.rec (fun _ => OutK) (k e h) (fun j => cd (Nat.beq j id) (k e h) (some (.exit j, e, h))) (fun l => some (.goto l, e, h)) (some (.ret, e, h)) (fun c => some (.panic c, e, h)) (some (.outgrown, e, h)) x) q) p) o
def loopK (f : E3 → AHeap → (E3 → AHeap → OutK) → OutK) (n : Nat) : E3 → AHeap → OutK :=
  @Nat.rec (fun _ => E3 → AHeap → OutK) (fun _ _ => none) (fun _ ih e h => f e h ih) n
def codeK (P : Program) (K : Nat) (X : Ext) (call : FuncId → CallC) (G : Nat → Bool) (L : Nat) : Code → CodeK
  | .skip => ⟨fun e h k => k e h⟩
  | .label _ => ⟨fun e h k => k e h⟩
  | .region _ ops draw => ⟨fun e h k => (regK P K X call G ops draw).run e [] h k⟩
  | .seq a b => ⟨fun e h k => (codeK P K X call G L a).run e h fun e h => (codeK P K X call G L b).run e h k⟩
  | .cond c a b => ⟨fun e h k => (baseK K c).run e [] fun v => asBool v none fun t => cd t ((codeK P K X call G L a).run e h k) ((codeK P K X call G L b).run e h k)⟩
  | .block id b => ⟨fun e h k => blkK id ((codeK P K X call G L b).run e h fun e h => some (.normal, e, h)) k⟩
  | .loop b => ⟨fun e h _ => loopK (codeK P K X call G L b).run L e h⟩
  | .exit id => ⟨fun e h _ => some (.exit id, e, h)⟩
  | .ret => ⟨fun e h _ => some (.ret, e, h)⟩
  | _ => ⟨fun _ _ _ => none⟩
def CodeOk (P : Program) (K : Nat) (X : Ext) (callA : ACall) (G : Nat → Bool) (L : Nat) (c : Code) (s : E3 → AHeap → (E3 → AHeap → OutK) → OutK) : Prop := ∀ e h k r p, s e h k = some r → LeE G e p →
  (∃ e' p' h', evalC P K X callA L c p h = some (.normal, p', h') ∧ LeE G e' p' ∧ k e' h' = some r) ∨ (∃ x e' p' h', evalC P K X callA L c p h = some (x, p', h') ∧ x ≠ .normal ∧ LeE G e' p' ∧ r = (x, e', h'))
theorem loopK_ok {G : Nat → Bool} {L : Nat} {c : Code} {f : E3 → AHeap → (E3 → AHeap → OutK) → OutK} (hf : CodeOk P K X callA G L c f) : ∀ (n : Nat) (e : E3) (h : AHeap) (r : Res) (p : PT Value), loopK f n e h = some r → LeE G e p →
    ∃ x e' p' h', iter (evalC P K X callA L c) n p h = some (x, p', h') ∧ x ≠ .normal ∧ LeE G e' p' ∧ r = (x, e', h')
  | 0, e, h, r, p, hr, hp => by cases hr
  | n + 1, e, h, r, p, hr, hp => by
    rcases hf e h (loopK f n) r p hr hp with ⟨e', p', h', h1, h2, h3⟩ | ⟨x, e', p', h', h1, h2, h3, h4⟩
    · obtain ⟨x, e2, p2, h5, h6, h7⟩ := loopK_ok hf n e' h' r p' h3 h2
      exact ⟨x, e2, p2, h5, by simp only [iter, h1, h6], h7⟩
    · refine ⟨x, e', p', h', ?_, h2, h3, h4⟩
      simp only [iter, h1]
      cases x <;> first | rfl | exact absurd rfl h2
theorem codeK_ok (hc : CallLe call callA) {G : Nat → Bool} {L : Nat} (c : Code) : CodeOk P K X callA G L c (codeK P K X call G L c).run := by
  induction c with
  | skip => intro e h k r p hr hp; exact .inl ⟨e, p, h, rfl, hp, hr⟩
  | label l => intro e h k r p hr hp; exact .inl ⟨e, p, h, rfl, hp, hr⟩
  | exit id => intro e h k r p hr hp; exact .inr ⟨_, e, p, h, rfl, nofun, hp, (Option.some.inj hr).symm⟩
  | ret => intro e h k r p hr hp; exact .inr ⟨_, e, p, h, rfl, nofun, hp, (Option.some.inj hr).symm⟩
  | region id ops draw =>
    intro e h k r p hr hp
    obtain ⟨e', p', h', h1, h2, h3⟩ := regK_ok hc hr hp
    exact .inl ⟨e', p', h', by simp only [evalC, h1], h2, h3⟩
  | seq a b ih1 ih2 =>
    intro e h k r p hr hp
    rcases ih1 e h _ r p hr hp with ⟨e', p', h', h1, h2, h3⟩ | ⟨x, e', p', h', h1, h2, h3, h4⟩
    · rcases ih2 e' h' k r p' h3 h2 with ⟨e2, p2, h2', g1, g2, g3⟩ | ⟨x, e2, p2, h2', g1, g2, g3, g4⟩
      · exact .inl ⟨e2, p2, h2', by simp only [evalC, h1, g1], g2, g3⟩
      · exact .inr ⟨x, e2, p2, h2', by simp only [evalC, h1, g1], g2, g3, g4⟩
    · refine .inr ⟨x, e', p', h', ?_, h2, h3, h4⟩
      simp only [evalC, h1]
      cases x <;> first | rfl | exact absurd rfl h2
  | cond c a b ih1 ih2 =>
    intro e h k r p hr hp
    obtain ⟨v, h0, h2⟩ := baseK_spec hr
    have h1 : aval K p c = some v := by
      cases c with
      | tmp t => exact hp.1 t v h0
      | const u => exact h0
      | global g => exact h0
      | func f => exact h0
    rcases asBool_cases v none (fun t => cd t ((codeK P K X call G L a).run e h k) ((codeK P K X call G L b).run e h k)) with ⟨e1, _⟩ | ⟨t, rfl, e1⟩
    · rw [e1] at h2; cases h2
    · rw [e1] at h2
      cases t with
      | true =>
        rcases ih1 e h k r p h2 hp with ⟨e2, p2, h2', g1, g2⟩ | ⟨x, e2, p2, h2', g1, g2⟩
        · exact .inl ⟨e2, p2, h2', by simp only [evalC, h1, g1], g2⟩
        · exact .inr ⟨x, e2, p2, h2', by simp only [evalC, h1, g1], g2⟩
      | false =>
        rcases ih2 e h k r p h2 hp with ⟨e2, p2, h2', g1, g2⟩ | ⟨x, e2, p2, h2', g1, g2⟩
        · exact .inl ⟨e2, p2, h2', by simp only [evalC, h1, g1], g2⟩
        · exact .inr ⟨x, e2, p2, h2', by simp only [evalC, h1, g1], g2⟩
  | block id b ih =>
    intro e h k r p hr hp
    have hr : blkK id ((codeK P K X call G L b).run e h fun e h => some (.normal, e, h)) k = some r := hr
    cases ho : (codeK P K X call G L b).run e h (fun e h => some (.normal, e, h)) with
    | none => rw [ho] at hr; cases hr
    | some q =>
      rw [ho] at hr
      rcases ih e h _ q p ho hp with ⟨e', p', h', h1, h2, h3⟩ | ⟨x, e', p', h', h1, h2, h3, rfl⟩
      · cases h3
        exact .inl ⟨e', p', h', by simp only [evalC, h1], h2, hr⟩
      · cases x with
        | normal => exact absurd rfl h2
        | exit j =>
          have hr : cd (Nat.beq j id) (k e' h') (some (Exit.exit j, e', h')) = some r := hr
          rw [beq_cd] at hr
          split at hr
          · rename_i hj
            exact .inl ⟨e', p', h', by simp only [evalC, h1, hj, if_true], h3, hr⟩
          · rename_i hj
            exact .inr ⟨_, e', p', h', by simp only [evalC, h1, hj, if_false], h2, h3, (Option.some.inj hr).symm⟩
        | goto l => exact .inr ⟨_, e', p', h', by simp only [evalC, h1], h2, h3, (Option.some.inj hr).symm⟩
        | ret => exact .inr ⟨_, e', p', h', by simp only [evalC, h1], h2, h3, (Option.some.inj hr).symm⟩
        | panic c => exact .inr ⟨_, e', p', h', by simp only [evalC, h1], h2, h3, (Option.some.inj hr).symm⟩
        | outgrown => exact .inr ⟨_, e', p', h', by simp only [evalC, h1], h2, h3, (Option.some.inj hr).symm⟩
  | loop b ih =>
    intro e h k r p hr hp
    obtain ⟨x, e', p', h', h1, h2, h3, h4⟩ := loopK_ok ih L e h r p hr hp
    exact .inr ⟨x, e', p', h', by simp only [evalC, h1], h2, h3, h4⟩
  | _ => intro e h k r p hr hp; cases hr

/-! ### Functions -/
structure LkC where
  run : E3 → Option Value
def lkC (i : Nat) : LkC := cond (Nat.blt i 512) ⟨fun e => (selC (i % 8)).run ((selC (i / 8 % 8)).run ((selC (i / 64)).run e))⟩ ⟨fun _ => none⟩
theorem lkC_eq (i : Nat) (e : E3) : (lkC i).run e = lkd e i := by
  unfold lkC lkd
  rw [blt_if]
  split <;> simp only [selC_eq] <;> rfl
structure ResC where
  run : E3 → AHeap → Option (List Value)
def resC (P : Program) : List ResultVar → ResC
  | [] => ⟨fun _ _ => some []⟩
  | .tmp t :: r => ⟨fun e h => ob ((lkC t).run e) fun v => ob ((resC P r).run e h) fun l => some (v :: l)⟩
  | .cell a t :: r => ⟨fun e h => ob ((lkC a).run e) fun v => asPtr v none fun p => ob (aload P t p h) fun v => ob ((resC P r).run e h) fun l => some (v :: l)⟩
theorem ob_spec {α β : Type} {x : Option α} {k : α → Option β} {r : β} (h : ob x k = some r) : ∃ a, x = some a ∧ k a = some r := by
  cases x with
  | none => cases h
  | some a => exact ⟨a, rfl, h⟩
theorem resC_spec {G : Nat → Bool} {e : E3} {p : PT Value} {h : AHeap} (hp : LeE G e p) : ∀ (rs : List ResultVar) (vs : List Value), (resC P rs).run e h = some vs → aresults P rs p h = some vs
  | [], vs, hv => hv
  | .tmp t :: r, vs, hv => by
    obtain ⟨v, h1, h2⟩ := ob_spec (show ob _ _ = some vs from hv)
    obtain ⟨l, h3, h4⟩ := ob_spec h2
    cases h4
    rw [lkC_eq] at h1
    have h1 := hp.1 _ _ h1
    simp only [aresults, h1, resC_spec hp r l h3]
  | .cell a t :: r, vs, hv => by
    obtain ⟨v, h1, h2⟩ := ob_spec (show ob _ _ = some vs from hv)
    rw [lkC_eq] at h1
    have h1 := hp.1 _ _ h1
    rcases asPtr_cases v none (fun p => ob (aload P t p h) fun v => ob ((resC P r).run e h) fun l => some (v :: l)) with ⟨e1, _⟩ | ⟨q, rfl, e1⟩
    · rw [e1] at h2; cases h2
    · rw [e1] at h2
      obtain ⟨u, h3, h4⟩ := ob_spec h2
      obtain ⟨l, h5, h6⟩ := ob_spec h4
      cases h6
      simp only [aresults, h1, h3, resC_spec hp r l h5]
/-- A function's end. -/
def endK (P : Program) (rs : List ResultVar) (o : OutK) : Option (Value × AHeap) :=
  @Option.rec _ (fun _ => Option (Value × AHeap)) none (fun p => @Prod.rec Exit (E3 × AHeap) (fun _ => Option (Value × AHeap)) (fun x q => @Prod.rec E3 AHeap (fun _ => Option (Value × AHeap)) (fun e h =>
    @Exit.rec (fun _ => Option (Value × AHeap)) (ob ((resC P rs).run e h) fun vs => some (resVal vs, h)) (fun _ => none) (fun _ => none) (ob ((resC P rs).run e h) fun vs => some (resVal vs, h)) (fun _ => none) none x) q) p) o
theorem LeE.put {G : Nat → Bool} {e : E3} {p : PT Value} (h : LeE G e p) {i : Nat} (hi : i < 512) (hg : G i = true) (v : Value) : LeE G (upd3 e i v) (p.set i v) := by
  refine ⟨fun t u ht => ?_, fun t ht => ?_⟩
  · rw [lkd_upd3 _ _ _ _ hi] at ht
    rw [PT.get_set]
    by_cases hti : t = i
    · subst hti; rw [if_pos rfl] at ht; cases ht; rw [if_pos rfl]
    · rw [if_neg hti] at ht; rw [if_neg (fun h => hti h.symm)]; exact h.1 t u ht
  · rw [lkd_upd3 _ _ _ _ hi, if_neg (by rintro rfl; rw [hg] at ht; cases ht)]
    exact h.2 t ht
theorem LeE.skip {G : Nat → Bool} {e : E3} {p : PT Value} (h : LeE G e p) {i : Nat} (hg : G i = false) (v : Value) : LeE G e (p.set i v) := by
  refine ⟨fun t u ht => ?_, h.2⟩
  rw [PT.get_set, if_neg (by rintro rfl; rw [h.2 _ hg] at ht; cases ht)]
  exact h.1 t u ht
/-- The arguments, laid. -/
def argsK (G : Nat → Bool) : List Value → Nat → E3 → (E3 → OutK) → OutK
  | [], _, e, k => k e
  | v :: l, i, e, k => cd (G i) ((putK i).run v e fun e' => argsK G l (i + 1) e' k) (argsK G l (i + 1) e k)
theorem argsK_spec {G : Nat → Bool} {r : Res} : ∀ (l : List Value) (i : Nat) (e : E3) (k : E3 → OutK) (p : PT Value), argsK G l i e k = some r → LeE G e p → ∃ e', k e' = some r ∧ LeE G e' (p.put i l)
  | [], i, e, k, p, hr, hp => ⟨e, hr, hp⟩
  | v :: l, i, e, k, p, hr, hp => by
    simp only [argsK, cd_eq] at hr
    cases hg : G i with
    | true =>
      rw [hg] at hr
      obtain ⟨h1, h2⟩ := putK_spec hr
      exact argsK_spec l (i + 1) _ k _ h2 (hp.put h1 hg v)
    | false =>
      rw [hg] at hr
      exact argsK_spec l (i + 1) _ k _ hr (hp.skip hg v)
theorem none3_le (G : Nat → Bool) : LeE G none3 .nil := by
  have h := none3_eq
  refine ⟨fun t v ht => by rw [h t]; exact ht, fun t _ => ?_⟩
  have := h t
  rw [← this]; rfl
/-- Which slots are read in other regions than they are written in. -/
def tmpsOf : List Operand → Nat
  | [] => 0
  | .tmp t :: r => Nat.lor (Nat.pow 2 t) (tmpsOf r)
  | _ :: r => tmpsOf r
def expoR (ops : Array Oper) : List Oper → Nat → Nat → Nat
  | [], _, a => a
  | o :: r, d, a =>
    let u := Nat.lor (tmpsOf o.op.operands.toList) (match o.guard with
      | some (j, _) => match (ops[j]?).bind (·.dst) with
        | some t => Nat.pow 2 t
        | none => 0
      | none => 0)
    expoR ops r (match o.dst with | some t => Nat.lor d (Nat.pow 2 t) | none => d) (Nat.lor a (Nat.sub u (Nat.land u d)))
def expoC : Code → Nat
  | .region _ ops _ => expoR ops ops.toList 0 0
  | .seq a b => Nat.lor (expoC a) (expoC b)
  | .cond c a b => Nat.lor (tmpsOf [c]) (Nat.lor (expoC a) (expoC b))
  | .block _ b => expoC b
  | .loop b => expoC b
  | _ => 0
def expoV : List ResultVar → Nat
  | [] => 0
  | .tmp t :: r => Nat.lor (Nat.pow 2 t) (expoV r)
  | .cell t _ :: r => Nat.lor (Nat.pow 2 t) (expoV r)
def inMask (m : Nat) (t : Nat) : Bool := Nat.beq (Nat.land (Nat.shiftRight m t) 1) 1
def fnK (P : Program) (K : Nat) (X : Ext) (O : Orc) (ok : FuncId → Bool) (L : Nat) : Nat → FuncId → CallC
  | 0, _ => ⟨fun _ _ => none⟩
  | d + 1, f => match O f with
    | some g => ⟨g⟩
    | none => match ok f with
      | false => ⟨fun _ _ => none⟩
      | true => match P.funcs[f]? with
        | none => ⟨fun _ _ => none⟩
        | some fn => match fn.body with
          | none => ⟨fun _ _ => none⟩
          | some c => ⟨fun args h => cond (Nat.ble args.length fn.ntmps) (endK P fn.results.toList (argsK (inMask (Nat.lor (expoC c) (expoV fn.results.toList))) args 0 none3 fun e => (codeK P K X (fnK P K X O ok L d) (inMask (Nat.lor (expoC c) (expoV fn.results.toList))) L c).run e h fun e h => some (.normal, e, h))) none⟩
theorem fnK_le (X : Ext) (O : Orc) (ok : FuncId → Bool) (K L : Nat) : ∀ d, CallLe (fnK P K X O ok L d) (evalFn P K X O ok L d) := by
  intro d
  induction d with
  | zero => intro f args h r hr; cases hr
  | succ d ih =>
    intro f args h r hr
    simp only [fnK] at hr
    simp only [evalFn]
    cases hO : O f with
    | some g => rw [hO] at hr; exact hr
    | none =>
      rw [hO] at hr
      simp only at hr ⊢
      cases hok : ok f with
      | false => rw [hok] at hr; cases hr
      | true =>
        rw [hok] at hr
        simp only [if_true] at hr ⊢
        cases hf : P.funcs[f]? with
        | none => rw [hf] at hr; cases hr
        | some fn =>
          rw [hf] at hr
          simp only at hr ⊢
          cases hb : fn.body with
          | none => rw [hb] at hr; cases hr
          | some c =>
            rw [hb] at hr
            simp only [ble_if] at hr ⊢
            split at hr
            · rename_i hle
              rw [if_pos hle]
              cases ho : argsK (inMask (Nat.lor (expoC c) (expoV fn.results.toList))) args 0 none3 (fun e => (codeK P K X (fnK P K X O ok L d) (inMask (Nat.lor (expoC c) (expoV fn.results.toList))) L c).run e h fun e h => some (.normal, e, h)) with
              | none => rw [ho] at hr; cases hr
              | some q =>
                rw [ho] at hr
                obtain ⟨e0, h1, h2⟩ := argsK_spec args 0 none3 _ .nil ho (none3_le _)
                have fin : ∀ (x : Exit) (e' : E3) (p' : PT Value) (h' : AHeap), LeE (inMask (Nat.lor (expoC c) (expoV fn.results.toList))) e' p' → ob ((resC P fn.results.toList).run e' h') (fun vs => some (resVal vs, h')) = some r → evalC P K X (evalFn P K X O ok L d) L c (PT.ofList args) h = some (x, p', h') → (x = .normal ∨ x = .ret) →
                    (match evalC P K X (evalFn P K X O ok L d) L c (PT.ofList args) h with
                      | some (.normal, e, h') => match aresults P fn.results.toList e h' with | none => none | some vs => some (resVal vs, h')
                      | some (.ret, e, h') => match aresults P fn.results.toList e h' with | none => none | some vs => some (resVal vs, h')
                      | _ => none) = some r := by
                  intro x e' p' h' g1 g2 g3 g4
                  obtain ⟨vs, g5, g6⟩ := ob_spec g2
                  rw [g3]
                  rcases g4 with rfl | rfl <;> (simp only [resC_spec g1 _ _ g5]; exact g6)
                rcases codeK_ok ih c e0 h _ q (PT.ofList args) h1 h2 with ⟨e', p', h', h3, h4, h5⟩ | ⟨x, e', p', h', h3, h4, h5, rfl⟩
                · cases h5
                  exact fin _ e' p' h' h4 hr h3 (.inl rfl)
                · cases x with
                  | normal => exact absurd rfl h4
                  | ret => exact fin _ e' p' h' h5 hr h3 (.inr rfl)
                  | _ => cases hr
            · cases hr
/-- The evaluator in closures. -/
def evalF (P : Program) (K : Nat) (X : Ext) (O : Orc) (ok : FuncId → Bool) (L d : Nat) : ACall := fun f args h => (fnK P K X O ok L d f).run args h
theorem evalF_good {W : World} {K : Nat} {X : Ext} (hX : ExtOk P W K X) (hN : NamesOk P) {O : Orc} (hO : OrcOk P W K O) {ok : FuncId → Bool} (hok : FnsOk P ok) (hm : P.follows .mixedOrders = true) {L : Nat} (d : Nat) : CallGood P W K (evalF P K X O ok L d) :=
  fun f args h r h' he => evalFn_good hX hN hO hok hm d f args h r h' (fnK_le X O ok K L d f args h _ he)
end
end Go.Ab
