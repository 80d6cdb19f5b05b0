/- The abstract evaluator: make, append, copy; and that the model's do what they tell, whatever room a new row gets. -/
import Derived.Test.YtcfmeiejfofgpaaGreatDoorAbE
namespace Go.Ab
open Go.RowKit
set_option linter.unusedVariables false
set_option linter.unusedSectionVars false

section
variable [Sg] {P : Program} {W : World} {K : Nat} {J : Nat → Option Obj} {φ : Map} {h h' : AHeap} {w : World}

def AHeap.kill (h : AHeap) (B : Nat) : AHeap := if h.ro ≤ B then { h with m := h.m.set B .dead } else h

theorem Rel.kill (R : Rel P W K J φ h w) {B : Nat} {x : At} (hx : φ B = some x) : Rel P W K J φ (h.kill B) w := by
  unfold AHeap.kill
  split
  · refine ⟨R.below, ?_, R.dom, ?_, R.old, R.fix, R.size, R.self, R.ro, R.junk, ?_⟩
    · intro C o hC
      rw [PT.get_set] at hC
      split at hC
      · rename_i hBC; subst hBC; cases hC; exact ⟨x, hx, trivial⟩
      · exact R.obj C o hC
    · intro C D y z o p hC hD l1 l2
      rw [PT.get_set] at hC hD
      split at hC
      · cases hC; cases l1
      · split at hD
        · cases hD; cases l2
        · exact R.inj C D y z o p hC hD l1 l2
    · intro C y c n E e1 e2 e3
      rw [PT.get_set] at e3
      split at e3
      · cases e3
      · exact R.es C y c n E e1 e2 e3
  · exact R

/-- The cells of what is appended, or copied. -/
def srcCells (h : AHeap) (size n : Nat) (v : Value) : Option (List Value) :=
  match v with
  | .slice (some a) _ _ => h.row? a (n * size)
  | .slice none _ _ => if n = 0 then some [] else none
  | _ => none
def sliceLen : Value → Option Nat
  | .slice _ n _ => some n
  | _ => none

theorem firstCells_ok {size n : Nat} {v v' : Value} {l : List Value} (R : Rel P W K J φ h w) (e : srcCells h size n v = some l) (hv : VR φ v v') (hn : ∀ m, sliceLen v = some m → n ≤ m) :
    ∃ l', (Builtin.firstCells size n v').run P w = .ok l'.toArray w ∧ VRs φ l l' ∧ l.length = n * size := by
  unfold srcCells at e
  split at e
  · rename_i a m c
    obtain ⟨x, cap', o, hx, hs, hl1, hl2, _, ho, rfl⟩ := hv.slice_inv
    have hnm := hn m rfl
    obtain ⟨l', h1, h2, h3⟩ := R.row e hx
    refine ⟨l', ?_, h2, h3⟩
    rcases ho with ho | ho
    · subst ho; exact h1
    · have h0 : n = 0 := by omega
      subst h0
      rw [Nat.zero_mul] at h3
      have : l = [] := List.length_eq_zero_iff.1 h3
      subst this
      cases h2
      simp [Builtin.firstCells, loadCells, loadCellsFrom]
  · rename_i m c
    have := hv.flat_inv rfl
    subst this
    split at e
    · rename_i h0
      cases e
      exact ⟨[], rfl, .nil, by simp [h0]⟩
    · cases e
  · cases e

theorem sliceLen_eq {v v' : Value} {n : Nat} (e : sliceLen v = some n) (hv : VR φ v v') (w : World) : (Builtin.lenOf v').run P w = .ok n w := by
  unfold sliceLen at e
  split at e
  · rename_i a m c
    cases e
    cases a with
    | none => have := hv.flat_inv rfl; subst this; rfl
    | some a => obtain ⟨x, cap', o, hx, hs, hl1, hl2, _, ho, rfl⟩ := hv.slice_inv; rfl
  · cases e

/-- A row that is a whole block. -/
def AHeap.whole? (h : AHeap) (a : Addr) (k : Nat) : Option (PT Value) :=
  match h.m.get a.block with
  | some (.cells c n _) => cond (Nat.beq a.off 0 && Nat.beq n k) (some c) none
  | _ => none
theorem whole_spec {h : AHeap} {a : Addr} {k : Nat} {c : PT Value} (e : h.whole? a k = some c) : a.off = 0 ∧ ∃ E, h.m.get a.block = some (.cells c k E) := by
  unfold AHeap.whole? at e
  split at e
  · rename_i c' n E hE
    cases hb : (Nat.beq a.off 0 && Nat.beq n k) with
    | false => rw [hb] at e; cases e
    | true =>
      rw [hb] at e; cases e
      simp only [Bool.and_eq_true] at hb
      have h1 := Nat.eq_of_beq_eq_true hb.1
      have h2 := Nat.eq_of_beq_eq_true hb.2
      subst h2
      exact ⟨h1, E, hE⟩
  · cases e
def _root_.Go.Ab.PT.filt {α : Type} : (Nat → Bool) → PT α → PT α
  | _, .nil => .nil
  | p, .node v l r => .node (if p 0 then v else none) (PT.filt (fun i => p (2 * i + 1)) l) (PT.filt (fun i => p (2 * i + 2)) r)
omit [Sg] in
theorem get_filt {α : Type} : ∀ (t : PT α) (p : Nat → Bool) (i : Nat), (PT.filt p t).get i = if p i then t.get i else none := by
  intro t
  induction t with
  | nil => intro p i; simp [PT.filt]
  | node v l r ih1 ih2 =>
    intro p i
    simp only [PT.filt, PT.get_node]
    by_cases h0 : i = 0
    · subst h0; simp
    · rw [if_neg h0, if_neg h0]
      by_cases h1 : i % 2 = 1
      · rw [if_pos h1, if_pos h1, ih1, show 2 * (i / 2) + 1 = i by omega]
      · rw [if_neg h1, if_neg h1, ih2, show 2 * (i / 2 - 1) + 2 = i by omega]

/-- A block told anew, no more than is known. -/
theorem Rel.recell (R : Rel P W K J φ h w) {B n N : Nat} {c c' : PT Value} {e : TypeId} {x : At} (hB : h.m.get B = some (.cells c n e)) (hx : φ B = some x) (hN : x.d + N ≤ x.cs)
    (hc : ∀ i v, i < N → c'.get i = some v → i < n ∧ c.get i = some v) : Rel P W K J φ { h with m := h.m.set B (.cells c' N e) } w := by
  refine ⟨R.below, ?_, R.dom, ?_, R.old, R.fix, R.size, R.self, R.ro, R.junk, ?_⟩
  · intro D o hD
    rw [PT.get_set] at hD
    split at hD
    · rename_i hBD; subst hBD; cases hD
      obtain ⟨y, hy, C, f, E, k1, k0, k2, k3, k4⟩ := R.obj B _ hB
      rw [hx] at hy; cases hy
      exact ⟨x, hx, C, f, E, k1, k0, k2, hN, fun i v hi hv => by obtain ⟨g1, g2⟩ := hc i v hi hv; exact k4 i v g1 g2⟩
    · exact R.obj D o hD
  · intro D E y z o p hD hE l1 l2 e1 e2 e3
    rw [PT.get_set] at hD hE
    have key : ∀ D o, (if B = D then some (AObj.cells c' N e) else h.m.get D) = some o → o.live = true → ∃ o', h.m.get D = some o' ∧ o'.live = true := by
      intro D o hD l
      split at hD
      · rename_i hBD; subst hBD; exact ⟨_, hB, rfl⟩
      · exact ⟨o, hD, l⟩
    obtain ⟨o', g1, g2⟩ := key D o hD l1
    obtain ⟨p', g3, g4⟩ := key E p hE l2
    exact R.inj D E y z o' p' g1 g3 g2 g4 e1 e2 e3
  · intro D y c2 n2 E e1 e2 e3
    rw [PT.get_set] at e3
    split at e3
    · rename_i hBD; subst hBD; cases e3; exact R.es B y c n e e1 e2 hB
    · exact R.es D y c2 n2 E e1 e2 e3

/-- Cells, read as the model has them. -/
theorem Rel.rowC (R : Rel P W K J φ h w) {a : Addr} {k n : Nat} {c : PT Value} {e : TypeId} {x : At} (hB : h.m.get a.block = some (.cells c n e)) (hx : φ a.block = some x) (hk : a.off + k ≤ n) :
    ∃ l' : List Value, (loadCells ⟨x.b, a.off + x.d, none⟩ k).run P w = .ok l'.toArray w ∧ l'.length = k ∧ ∀ j v, j < k → c.get (a.off + j) = some v → ∃ v', l'[j]? = some v' ∧ VR φ v v' := by
  obtain ⟨y, C, f, E, hy, h1, _, h2, h3, h4⟩ := R.cells hB
  rw [hx] at hy; cases hy
  refine ⟨(List.range k).map fun j => (C[x.d + (a.off + j)]?).getD undef, ?_, by simp, ?_⟩
  · refine loadCells_run P w _ _ k _ (by simp) fun j hj => ?_
    have hlt : x.d + (a.off + j) < C.size := by omega
    rw [cell_of h1, show a.off + x.d + j = x.d + (a.off + j) by omega]
    simp [hj, hlt]
  · intro j v hj hv
    obtain ⟨v', h5, h6⟩ := h4 _ _ (by omega) hv
    exact ⟨v', by simp [hj, h5], h6⟩

/-- May a row grow to so many? -/
def growOk (need bytes : Nat) : Bool := decide ((2 * need + 1024) * bytes ≤ 2 ^ 48 ∧ need < 2 ^ 62)

def aappend (P : Program) (st : TypeId) (s x : Value) (h : AHeap) : Option (Value × AHeap) :=
  match P.underlying st with
  | some (.slice elem) => match P.info? elem with
    | none => none
    | some ei => match ei.zero with
      | none => none
      | some z => match sliceLen x with
        | none => none
        | some n => match srcCells h ei.size n x with
          | none => none
          | some new => match s with
            | .slice none len cap => if len = 0 ∧ cap = 0 then
                if n = 0 then some (.slice none 0 0, h)
                else if growOk n ei.bytes = true ∧ z.cells.size = ei.size then
                  some (.slice (some ⟨h.next, 0, none⟩) n n, h.new (.cells (PT.ofList new) (n * ei.size) elem))
                else none
              else none
            | .slice (some a) len cap => if len + n ≤ cap then
                match h.store ⟨a.block, a.off + len * ei.size, none⟩ new with
                | none => none
                | some h1 => some (.slice (some a) (len + n) cap, h1)
              else if growOk (len + n) ei.bytes = true ∧ z.cells.size = ei.size ∧ h.rowOf a elem = true ∧ new.all Value.oneCell' = true then
                match h.whole? a (len * ei.size) with
                | some c => some (.slice (some ⟨h.next, 0, none⟩) (len + n) (len + n), (h.kill a.block).new (.cells (c.put (len * ei.size) new) ((len + n) * ei.size) elem))
                | none => match h.row? a (len * ei.size) with
                | none => none
                | some old => some (.slice (some ⟨h.next, 0, none⟩) (len + n) (len + n), (h.kill a.block).new (.cells (PT.ofList (old ++ new)) ((len + n) * ei.size) elem))
              else none
            | _ => none
  | _ => none

theorem growBy_le (need : Nat) : ∀ (r c : Nat), c ≤ 2 * need + 768 → Builtin.growBy need r c ≤ 2 * need + 768 := by
  intro r
  induction r with
  | zero => intro c h; exact h
  | succ r ih =>
    intro c h
    simp only [Builtin.growBy]
    split
    · exact h
    · exact ih _ (by omega)
theorem nextslicecap_le (need cap : Nat) (h : cap ≤ need) : Builtin.nextslicecap need cap ≤ 2 * need + 1024 := by
  unfold Builtin.nextslicecap
  split
  · omega
  · split
    · omega
    · exact Nat.le_trans (growBy_le need 4 cap (by omega)) (by omega)

/-- What the model's append does where there is no room. -/
theorem append_grows {st xt elem ex : TypeId} {ei : TypeInfo} {z : Value} {ty : TypeId} {base : Option Addr} {len cap n : Nat} {x : Value} {old new : List Value} (w : World)
    (hxt : P.underlying xt = some (.slice ex)) (hu : P.underlying st = some (.slice elem)) (hi : P.info? elem = some ei) (hz : ei.zero = some z)
    (hn : (Builtin.lenOf x).run P w = .ok n w) (hgrow : cap < len + n) (hok : growOk (len + n) ei.bytes = true)
    (hold : (Builtin.firstCells ei.size len (.slice base len cap)).run P w.drew = .ok old.toArray w.drew) (hnew : (Builtin.firstCells ei.size n x).run P w.drew = .ok new.toArray w.drew) :
    ∃ c, len + n ≤ c ∧ c < 2 ^ 63 ∧ (Builtin.append_ #[st, xt] ty #[.slice base len cap, x]).run P w =
      .ok (.slice (some ⟨w.heap.size, 0, none⟩) (len + n) c) (w.drew.alloc (.cells ((old ++ new).toArray ++ Builtin.zeroCells z.cells (c - (len + n))) elem)) := by
  simp only [growOk, decide_eq_true_eq] at hok
  obtain ⟨hb, hlt⟩ := hok
  let q : Question := .appendCap (len + n) cap elem
  refine ⟨q.cut (w.tape w.drawn q), by simp [q, Question.cut], ?_, ?_⟩
  · have := Nat.mod_lt (w.tape w.drawn q) (show 0 < 2 ^ 63 - (len + n) by omega)
    show len + n + w.tape w.drawn q % (2 ^ 63 - (len + n)) < 2 ^ 63
    omega
  have hcapbytes : ¬ (Builtin.nextslicecap (len + n) cap * ei.bytes > 2 ^ 48) := by
    have h1 := nextslicecap_le (len + n) cap (by omega)
    have h2 := Nat.mul_le_mul_right ei.bytes h1
    omega
  have hmax : ¬ (((len + n : Nat) : Int) > IntKind.i64.max) := by
    have : IntKind.i64.max = 9223372036854775807 := by decide
    omega
  have hq : q.forced = false := rfl
  have hch : (choose q).run P w = .ok (q.cut (w.tape w.drawn q)) w.drew := by
    rw [run_choose, hq]; rfl
  unfold Builtin.append_
  simp only [List.getElem?_toArray, List.getElem?_cons_zero, List.getElem?_cons_succ, Sem.run_bind, run_underlying w hu, run_underlying w hxt, Result.andThen_ok, run_sizeOf w hi, Sem.run_pure, Bool.false_eq_true, if_false, hn]
  rw [if_neg (by omega)]
  simp only [run_typeInfo w hi, Sem.run_bind, Result.andThen_ok, hmax, false_and, if_false, hcapbytes]
  show (((choose q).run P w).andThen _) = _
  rw [hch]
  simp only [Result.andThen_ok, run_typeInfo w.drew hi, run_askRoom, hold, Bool.not_false, if_true, hnew, run_zeroValue w.drew hi hz, Sem.run_bind, Go.newRow, run_newObj, Sem.run_pure]
  simp [World.alloc]

theorem append_fits {st xt elem ex : TypeId} {ei : TypeInfo} {ty : TypeId} {base : Option Addr} {len cap n : Nat} {x : Value} {new : List Value} (w w' : World)
    (hxt : P.underlying xt = some (.slice ex)) (hu : P.underlying st = some (.slice elem)) (hi : P.info? elem = some ei)
    (hn : (Builtin.lenOf x).run P w = .ok n w) (hfit : len + n ≤ cap) (hnew : (Builtin.firstCells ei.size n x).run P w = .ok new.toArray w)
    (hst : match base with | some a => (storeCells (a.add (len * ei.size)) new).run P w = .ok () w' | none => w' = w) :
    (Builtin.append_ #[st, xt] ty #[.slice base len cap, x]).run P w = .ok (.slice base (len + n) cap) w' := by
  unfold Builtin.append_
  simp only [List.getElem?_toArray, List.getElem?_cons_zero, List.getElem?_cons_succ, Sem.run_bind, run_underlying w hu, run_underlying w hxt, Result.andThen_ok, run_sizeOf w hi, Sem.run_pure, Bool.false_eq_true, if_false, hn]
  rw [if_pos hfit]
  simp only [Bool.not_false, if_true, Sem.run_bind, hnew, Result.andThen_ok]
  cases base with
  | none => simp only at hst; subst hst; rfl
  | some a => simp only at hst; simp only [Sem.run_bind, hst, Result.andThen_ok, Sem.run_pure]

theorem put_append : ∀ (l m : List Value) (t : PT Value) (i : Nat), t.put i (l ++ m) = (t.put i l).put (i + l.length) m := by
  intro l
  induction l with
  | nil => intro m t i; rfl
  | cons v l ih => intro m t i; simp only [List.cons_append, PT.put, List.length_cons]; rw [ih, show i + 1 + l.length = i + (l.length + 1) by omega]
theorem ofList_append (l m : List Value) : PT.ofList (l ++ m) = (PT.ofList l).put l.length m := by
  unfold PT.ofList
  rw [put_append, Nat.zero_add]

/-- A slice that has grown in its own place: its old block is dead, a new one lies there. -/
theorem Rel.shiftG (R : Rel P W K J φ h w) {a : Addr} {x : At} {n N : Nat} {c t : PT Value} {elem : TypeId} (hx : φ a.block = some x) (hg : x.grow = true) (hB : h.m.get a.block = some (.cells c n elem))
    (ht : ∀ i v, i < N → t.get i = some v → a.off + i < n ∧ c.get (a.off + i) = some v) (hN : a.off + x.d + N ≤ x.cs) :
    ∃ ψ, φ.le ψ ∧ ψ h.next = some ⟨x.b, a.off + x.d, x.es, x.cs, true⟩ ∧ Rel P W K J ψ ((h.kill a.block).new (.cells t N elem)) w := by
  have hro : h.ro ≤ a.block := by
    rcases Nat.lt_or_ge a.block h.ro with h1 | h1
    · have := R.fix _ _ hx h1; rw [hg] at this; cases this
    · exact h1
  have hkill : h.kill a.block = { h with m := h.m.set a.block .dead } := by unfold AHeap.kill; rw [if_pos hro]
  obtain ⟨y, C, f, E, hy, g1, g0, g2, g3, g4⟩ := R.cells hB
  obtain ⟨rfl, hE0⟩ := g0 hro
  rw [hE0] at g1
  clear g0 hE0
  rw [hx] at hy; cases hy
  have hnx : a.block < h.next := R.dom _ _ hx
  let z : At := ⟨x.b, a.off + x.d, x.es, x.cs, true⟩
  let ψ : Map := fun B => if B = h.next then some z else φ B
  have hle : φ.le ψ := fun B y e => by
    have := R.dom B y e
    show (if B = h.next then some z else φ B) = some y
    rw [if_neg (by omega)]; exact e
  have hinv : ∀ B y, ψ B = some y → (B = h.next ∧ y = z) ∨ (B ≠ h.next ∧ φ B = some y) := by
    intro B y e
    have e : (if B = h.next then some z else φ B) = some y := e
    split at e
    · rename_i hB; cases e; exact .inl ⟨hB, rfl⟩
    · rename_i hB; exact .inr ⟨hB, e⟩
  have hself : ψ h.next = some z := if_pos rfl
  refine ⟨ψ, hle, hself, ?_⟩
  rw [hkill]
  have hget : ∀ D o, ((({ h with m := h.m.set a.block .dead } : AHeap).new (.cells (t) N elem)).m.get D = some o) →
      (D = h.next ∧ o = .cells (t) N elem) ∨ (D ≠ h.next ∧ D = a.block ∧ o = .dead) ∨ (D ≠ h.next ∧ D ≠ a.block ∧ h.m.get D = some o) := by
    intro D o hD
    simp only [AHeap.new, PT.get_set] at hD
    by_cases h1 : h.next = D
    · rw [if_pos h1] at hD; cases hD; exact .inl ⟨h1.symm, rfl⟩
    · rw [if_neg h1] at hD
      by_cases h2 : a.block = D
      · rw [if_pos h2] at hD; cases hD; exact .inr (.inl ⟨fun e => h1 e.symm, h2.symm, rfl⟩)
      · rw [if_neg h2] at hD; exact .inr (.inr ⟨fun e => h1 e.symm, fun e => h2 e.symm, hD⟩)
  refine ⟨R.below, ?_, ?_, ?_, ?_, ?_, ?_, ?_, ?_, ?_, ?_⟩
  · intro D o hD
    rcases hget D o hD with ⟨rfl, rfl⟩ | ⟨_, rfl, rfl⟩ | ⟨h1, _, hD⟩
    · refine ⟨z, hself, C, (0, 0), _, g1, fun _ => ⟨rfl, rfl⟩, g2, hN, fun i v hi hv => ?_⟩
      obtain ⟨q1, q2⟩ := ht i v hi hv
      obtain ⟨v', h5, h6⟩ := g4 _ _ q1 q2
      exact ⟨v', by rw [show a.off + x.d + i = x.d + (a.off + i) by omega]; exact h5, h6.mono hle⟩
    · exact ⟨x, hle _ _ hx, trivial⟩
    · obtain ⟨y, hy, hobj⟩ := R.obj D o hD
      refine ⟨y, hle _ _ hy, ?_⟩
      cases o with
      | dead => trivial
      | map es clock => obtain ⟨es', k1, k2⟩ := hobj; exact ⟨es', k1, k2.mono hle⟩
      | cells c n e =>
        obtain ⟨C, f, E, k1, k0, k2, k3, k4⟩ := hobj
        exact ⟨C, f, E, k1, k0, k2, k3, fun i v hi hv => by obtain ⟨v', h5, h6⟩ := k4 i v hi hv; exact ⟨v', h5, h6.mono hle⟩⟩
  · intro B y e
    show B < h.next + 1
    rcases hinv B y e with ⟨h1, _⟩ | ⟨_, h1⟩
    · omega
    · have := R.dom B y h1; omega
  · intro D E y u o p hD hE l1 l2 e1 e2 e3
    rcases hget D o hD with ⟨d1, rfl⟩ | ⟨_, _, rfl⟩ | ⟨d1, d2, hD⟩
    · rcases hget E p hE with ⟨d3, rfl⟩ | ⟨_, _, rfl⟩ | ⟨d3, d4, hE⟩
      · rw [d1, d3]
      · cases l2
      · exfalso
        rcases hinv D y e1 with ⟨_, h2⟩ | ⟨h1, _⟩
        · rcases hinv E u e2 with ⟨h3, _⟩ | ⟨_, h4⟩
          · exact d3 h3
          · subst h2
            exact d4 (R.inj E a.block u x p _ hE hB l2 rfl h4 hx e3.symm)
        · exact h1 d1
    · cases l1
    · rcases hget E p hE with ⟨d3, rfl⟩ | ⟨_, _, rfl⟩ | ⟨d3, d4, hE⟩
      · exfalso
        rcases hinv E u e2 with ⟨_, h2⟩ | ⟨h1, _⟩
        · rcases hinv D y e1 with ⟨h3, _⟩ | ⟨_, h4⟩
          · exact d1 h3
          · subst h2
            exact d2 (R.inj D a.block y x o _ hD hB l1 rfl h4 hx e3)
        · exact h1 d3
      · cases l2
      · rcases hinv D y e1 with ⟨h1, _⟩ | ⟨_, h1⟩
        · exact absurd h1 d1
        · rcases hinv E u e2 with ⟨h2, _⟩ | ⟨_, h2⟩
          · exact absurd h2 d3
          · exact R.inj D E y u o p hD hE l1 l2 h1 h2 e3
  · intro B y e1 e2
    rcases hinv B y e1 with ⟨h1, h2⟩ | ⟨h1, h2⟩
    · rw [h2]; show W.heap.size ≤ x.b; exact R.old _ x hx hro
    · exact R.old B y h2 e2
  · intro B y e1 e2
    rcases hinv B y e1 with ⟨h1, h2⟩ | ⟨h1, h2⟩
    · have := R.ro
      have e2 : B < h.ro := e2
      omega
    · exact R.fix B y h2 e2
  · intro B y e hk
    rcases hinv B y e with ⟨h1, h2⟩ | ⟨h1, h2⟩
    · rw [h2]; show x.b < w.heap.size; exact R.live_lt hB rfl hx
    · exact R.size B y h2 hk
  · intro B hB
    obtain ⟨cs, es, e⟩ := R.self B hB
    exact ⟨cs, es, hle _ _ e⟩
  · show h.ro ≤ h.next + 1
    have := R.ro; omega
  · intro b O hb
    obtain ⟨j1, j2⟩ := R.junk b O hb
    refine ⟨j1, fun B y e => ?_⟩
    rcases hinv B y e with ⟨h1, h2⟩ | ⟨h1, h2⟩
    · rw [h2]; show x.b ≠ b; exact j2 _ x hx
    · exact j2 B y h2
  · intro B y c' n' E e1 e2 e3
    rcases hget B _ e3 with ⟨d1, d2⟩ | ⟨_, _, d2⟩ | ⟨d1, d2, hD⟩
    · cases d2
      rcases hinv B y e1 with ⟨_, h2⟩ | ⟨h1, _⟩
      · subst h2; exact R.es _ x _ _ _ hx hg hB
      · exact absurd d1 h1
    · cases d2
    · rcases hinv B y e1 with ⟨h1, _⟩ | ⟨_, h1⟩
      · exact absurd h1 d1
      · exact R.es B y _ _ _ h1 e2 hD

theorem Rel.shift (R : Rel P W K J φ h w) {a : Addr} {x : At} {k N : Nat} {old : List Value} {elem : TypeId} (hx : φ a.block = some x) (hg : x.grow = true) (hrow : h.rowOf a elem = true)
    (ho : h.row? a k = some old) (hk : k ≤ N) (hN : a.off + x.d + N ≤ x.cs) :
    ∃ ψ, φ.le ψ ∧ ψ h.next = some ⟨x.b, a.off + x.d, x.es, x.cs, true⟩ ∧ Rel P W K J ψ ((h.kill a.block).new (.cells (PT.ofList old) N elem)) w := by
  obtain ⟨c, n, hB⟩ : ∃ c n, h.m.get a.block = some (.cells c n elem) := by
    unfold AHeap.rowOf at hrow
    split at hrow
    · rename_i c n E hE
      have : E = elem := by simpa using hrow
      subst this
      exact ⟨c, n, hE⟩
    · cases hrow
  refine R.shiftG hx hg hB (fun i v hi hv => ?_) hN
  rw [PT.get_ofList] at hv
  obtain ⟨l', hrun, hl', hlen⟩ := R.row ho hx
  have hik : i < k := by
    rcases Nat.lt_or_ge i k with h | h
    · exact h
    · rw [List.getElem?_eq_none (by omega)] at hv; cases hv
  unfold AHeap.row? at ho
  rw [if_neg (by omega)] at ho
  split at ho
  · cases ho
  · rw [hB] at ho
    simp only at ho
    split at ho
    · obtain ⟨_, hr⟩ := PT.row_spec _ _ _ _ ho
      have := hr i hik
      rw [hv] at this
      exact ⟨by omega, this⟩
    · cases ho

def aappendT (P : Program) (st xt : TypeId) (s x : Value) (h : AHeap) : Option (Value × AHeap) :=
  match P.underlying xt with
  | some (.slice _) => aappend P st s x h
  | _ => none

theorem aappend_ok {st xt ty : TypeId} {s s' x x' v : Value} (R : Rel P W K J φ h w) (e : aappendT P st xt s x h = some (v, h')) (hs : VR φ s s') (hx : VR φ x x') :
    ∃ ψ w' v', φ.le ψ ∧ (Builtin.append_ #[st, xt] ty #[s', x']).run P w = .ok v' w' ∧ Rel P W K J ψ h' w' ∧ VR ψ v v' := by
  unfold aappendT at e
  split at e
  case h_2 => cases e
  rename_i ex hxt
  unfold aappend at e
  split at e
  case h_2 => cases e
  rename_i elem hu
  split at e
  · cases e
  rename_i ei hi
  split at e
  · cases e
  rename_i z hz
  split at e
  · cases e
  rename_i n hn
  split at e
  · cases e
  rename_i new hnew
  have hlen := fun w : World => sliceLen_eq hn hx w (P := P)
  obtain ⟨new', hnrun, hnv, hnl⟩ := firstCells_ok R hnew hx (fun m hm => by rw [hn] at hm; cases hm; exact Nat.le_refl _)
  obtain ⟨new'', hnrun2, hnv2, _⟩ := firstCells_ok R.drew hnew hx (fun m hm => by rw [hn] at hm; cases hm; exact Nat.le_refl _)
  split at e
  · rename_i len cap
    have := hs.flat_inv rfl
    subst this
    split at e
    case isFalse => cases e
    rename_i h0
    obtain ⟨rfl, rfl⟩ := h0
    split at e
    · rename_i hn0
      cases e
      subst hn0
      refine ⟨φ, w, .slice none 0 0, φ.le_refl, ?_, R, .flat rfl⟩
      exact append_fits w w hxt hu hi (hlen w) (by omega) hnrun rfl
    · split at e
      case isFalse => cases e
      rename_i hn0 hok
      cases e
      obtain ⟨c, hc, hc63, hrun⟩ := append_grows (P := P) (ty := ty) (base := none) (len := 0) (cap := 0) (old := []) w hxt hu hi hz (hlen w) (by omega) (by rw [Nat.zero_add]; exact hok.1) (by simp [Builtin.firstCells]) hnrun2
      rw [List.nil_append, Nat.zero_add] at hrun
      rw [Nat.zero_add] at hc
      obtain ⟨ψ, k1, k2, k3, k4⟩ := R.drew.newRow hnv2 elem ei.size (Builtin.zeroCells z.cells (c - n)) true (fun _ => ⟨ei, hi, rfl⟩)
      refine ⟨ψ, _, _, k1, hrun, ?_, ?_⟩
      · rw [hnl] at k4; exact k4
      · refine .slice (a := ⟨h.next, 0, none⟩) k2 rfl (Nat.le_refl _) hc (.inr ⟨rfl, ?_, hc63⟩) (.inl (by simp))
        show 0 + 0 + c * ei.size ≤ new.length + (Builtin.zeroCells z.cells (c - n)).size
        simp only [Builtin.zeroCells, Array.size_map, Array.size_range, hok.2, hnl]
        rw [← Nat.add_mul]
        have : n + (c - n) = c := by omega
        rw [this]; omega
  · rename_i a len cap
    obtain ⟨y, cap', o, hy, hsp, hl1, hl2, hgr, ho, rfl⟩ := hs.slice_inv
    split at e
    · rename_i hfit
      split at e
      · cases e
      rename_i h1 hst
      cases e
      obtain ⟨w', hrun, R'⟩ := R.store hst hy hnv
      refine ⟨φ, w', .slice (some ⟨y.b, o, none⟩) (len + n) cap', φ.le_refl, ?_, R', .slice hy hsp hfit hl2 hgr ho⟩
      refine append_fits w w' hxt hu hi (hlen w) (by omega) hnrun ?_
      simp only [addr_add]
      rcases ho with ho | ho
      · subst ho
        rw [show a.off + y.d + len * ei.size = a.off + len * ei.size + y.d by omega]
        exact hrun
      · have hn0 : n = 0 := by omega
        subst hn0
        rw [Nat.zero_mul] at hnl
        have hnil : new = [] := List.length_eq_zero_iff.1 hnl
        subst hnil
        cases hnv
        simp only [storeCells, Sem.run_pure] at hrun ⊢
        exact hrun
    · rename_i hfit
      split at e
      case isFalse => cases e
      rename_i hok
      obtain ⟨hok1, hok2, hok3, hok4⟩ := hok
      have hkn : (h.kill a.block).next = h.next := by unfold AHeap.kill; split <;> rfl
      have hkr : (h.kill a.block).ro = h.ro := by unfold AHeap.kill; split <;> rfl
      have hmul2 : (len + n) * ei.size = len * ei.size + n * ei.size := Nat.add_mul _ _ _
      split at e
      · -- the whole block
        rename_i c hwh
        cases e
        obtain ⟨hoff, E, hE⟩ := whole_spec hwh
        have hEe : E = elem := by
          have hrow := hok3
          unfold AHeap.rowOf at hrow
          rw [hE] at hrow
          simpa using hrow
        subst hEe
        obtain ⟨old', holdrun, holdlen, holdc⟩ := R.drew.rowC (k := len * ei.size) hE hy (by omega)
        have hold1 : (Builtin.firstCells ei.size len (.slice (some ⟨y.b, o, none⟩) len cap')).run P w.drew = .ok old'.toArray w.drew := by
          rcases ho with ho | ho
          · subst ho; exact holdrun
          · have h0 : len = 0 := by omega
            subst h0
            rw [Nat.zero_mul] at holdlen
            have : old' = [] := List.length_eq_zero_iff.1 holdlen
            subst this
            simp [Builtin.firstCells, loadCells, loadCellsFrom]
        by_cases hin : len + n ≤ cap'
        · have hcc : cap' ≠ cap := by omega
          obtain ⟨hg, hroom, h63⟩ := hgr.resolve_left hcc
          have ho' : o = a.off + y.d := ho.resolve_right (by omega)
          subst ho'
          have hes : y.es = ei.size := by
            obtain ⟨i, hi', he⟩ := R.es _ y _ _ _ hy hg hE
            rw [hi] at hi'; cases hi'; exact he
          have hmul : (len + n) * ei.size ≤ cap' * ei.size := Nat.mul_le_mul_right _ hin
          rw [hes] at hroom
          obtain ⟨ψ, k1, k2, k3⟩ := R.shiftG (N := (len + n) * ei.size) (t := PT.filt (fun i => decide (i < len * ei.size)) c) hy hg hE (fun i v hi hv => by
            rw [get_filt] at hv
            split at hv
            · rename_i hlt
              rw [hoff, Nat.zero_add]
              exact ⟨by simpa using hlt, hv⟩
            · cases hv) (by omega)
          have hnv' := hnv.mono k1
          have hro : h.ro ≤ a.block := by
            rcases Nat.lt_or_ge a.block h.ro with h1 | h1
            · have := R.fix _ _ hy h1; rw [hg] at this; cases this
            · exact h1
          have hvr : VR ψ (.slice (some ⟨h.next, 0, none⟩) (len + n) (len + n)) (.slice (some ⟨y.b, a.off + y.d, none⟩) (len + n) cap') :=
            .slice (a := ⟨h.next, 0, none⟩) (x := ⟨y.b, a.off + y.d, y.es, y.cs, true⟩) k2 rfl (Nat.le_refl _) hin (.inr ⟨rfl, by show 0 + (a.off + y.d) + cap' * y.es ≤ y.cs; rw [hes]; omega, h63⟩) (.inl (by simp))
          by_cases hne : new = []
          · subst hne
            cases hnv
            have hn0 : n * ei.size = 0 := by simpa using hnl.symm
            refine ⟨ψ, w, .slice (some ⟨y.b, a.off + y.d, none⟩) (len + n) cap', k1, ?_, ?_, hvr⟩
            · exact append_fits w w hxt hu hi (hlen w) (by omega) hnrun (by simp [storeCells])
            · refine (k3.recell (B := h.next) (N := (len + n) * ei.size) (c' := c.put (len * ei.size) []) (by simp only [AHeap.new, hkn, PT.get_set_eq]; rfl) k2 (by show a.off + y.d + _ ≤ y.cs; omega) (fun i v hi hv => ?_)).congr (fun B => ?_) rfl rfl
              · refine ⟨hi, ?_⟩
                simp only [PT.put] at hv
                rw [get_filt, if_pos (by simp only [decide_eq_true_eq]; omega)]
                exact hv
              · simp only [AHeap.new, hkn, PT.get_set]
                split <;> rfl
          · have hst : ((h.kill a.block).new (.cells (PT.filt (fun i => decide (i < len * ei.size)) c) ((len + n) * ei.size) E)).store ⟨h.next, len * ei.size, none⟩ new =
                some { (h.kill a.block).new (.cells (PT.filt (fun i => decide (i < len * ei.size)) c) ((len + n) * ei.size) E) with m := ((h.kill a.block).new (.cells (PT.filt (fun i => decide (i < len * ei.size)) c) ((len + n) * ei.size) E)).m.set h.next (.cells ((PT.filt (fun i => decide (i < len * ei.size)) c).put (len * ei.size) new) ((len + n) * ei.size) E) } := by
              unfold AHeap.store
              rw [if_neg (by simpa using hne)]
              simp only [Option.isSome_none, Bool.false_eq_true, if_false, AHeap.new, hkn, PT.get_set_eq, hkr]
              rw [if_pos ⟨R.ro, by rw [hnl]; omega, hok4⟩]
            obtain ⟨w', hrun, R'⟩ := k3.store hst k2 hnv'
            refine ⟨ψ, w', .slice (some ⟨y.b, a.off + y.d, none⟩) (len + n) cap', k1, ?_, (R'.recell (B := h.next) (N := (len + n) * ei.size) (c' := c.put (len * ei.size) new) (by simp only [PT.get_set_eq]; rfl) k2 (by show a.off + y.d + _ ≤ y.cs; omega) (fun i v hi hv => ?_)).congr (fun B => ?_) rfl rfl, hvr⟩
            · refine append_fits w w' hxt hu hi (hlen w) (by omega) hnrun ?_
              simp only [addr_add]
              rw [show a.off + y.d + len * ei.size = len * ei.size + (a.off + y.d) by omega]
              exact hrun
            · refine ⟨hi, ?_⟩
              rw [PT.get_put] at hv ⊢
              split at hv
              · rename_i hc; rw [if_pos hc]; exact hv
              · rename_i hc
                rw [if_neg hc, get_filt, if_pos (by simp only [decide_eq_true_eq]; omega)]
                exact hv
            · simp only [AHeap.new, hkn, PT.get_set]
              split <;> rfl
        · obtain ⟨cc, hc, hc63, hrun⟩ := append_grows (P := P) (ty := ty) (base := some ⟨y.b, o, none⟩) (len := len) (cap := cap') w hxt hu hi hz (hlen w) (by omega) hok1 hold1 hnrun2
          have hR2 := R.drew.kill hy
          obtain ⟨ψ, k1, k2, k3⟩ := hR2.new (o := .cells (c.put (len * ei.size) new) ((len + n) * ei.size) E) (O := .cells ((old' ++ new'').toArray ++ Builtin.zeroCells z.cells (cc - (len + n))) E)
            (x := ⟨w.heap.size, 0, ei.size, (len + n) * ei.size + (Builtin.zeroCells z.cells (cc - (len + n))).size, true⟩) rfl (fun _ c2 n2 E2 hc2 => by cases hc2; exact ⟨ei, hi, rfl⟩) (by
              intro ψ w' hle hw
              have hnl' : new''.length = n * ei.size := by rw [← hnv2.length]; exact hnl
              refine ⟨(old' ++ new'').toArray ++ Builtin.zeroCells z.cells (cc - (len + n)), (0, 0), _, hw, fun _ => ⟨rfl, rfl⟩, by show _ = (len + n) * ei.size + (Builtin.zeroCells z.cells (cc - (len + n))).size; simp only [Array.size_append, List.size_toArray, List.length_append]; omega, by show 0 + (len + n) * ei.size ≤ (len + n) * ei.size + (Builtin.zeroCells z.cells (cc - (len + n))).size; omega, fun i v hi hv => ?_⟩
              rw [PT.get_put] at hv
              have hlt : i < (old' ++ new'').length := by rw [List.length_append]; omega
              split at hv
              · rename_i hc2
                obtain ⟨v', h5, h6⟩ := hnv2.get _ _ hv
                refine ⟨v', ?_, h6.mono hle⟩
                rw [Nat.zero_add, Array.getElem?_append_left (by simpa using hlt)]
                simp only [List.getElem?_toArray]
                rw [List.getElem?_append_right (by omega), holdlen]
                exact h5
              · rename_i hc2
                obtain ⟨v', h5, h6⟩ := holdc i v (by omega) (by rw [hoff, Nat.zero_add]; exact hv)
                refine ⟨v', ?_, h6.mono hle⟩
                rw [Nat.zero_add, Array.getElem?_append_left (by simpa using hlt)]
                simp only [List.getElem?_toArray]
                rw [List.getElem?_append_left (by omega)]
                exact h5)
          rw [hkn] at k2
          refine ⟨ψ, _, _, k1, hrun, k3, ?_⟩
          refine .slice (a := ⟨h.next, 0, none⟩) k2 rfl (Nat.le_refl _) hc (.inr ⟨rfl, ?_, hc63⟩) (.inl (by simp))
          show 0 + 0 + cc * ei.size ≤ (len + n) * ei.size + (Builtin.zeroCells z.cells (cc - (len + n))).size
          simp only [Builtin.zeroCells, Array.size_map, Array.size_range, hok2]
          rw [← Nat.add_mul]
          have : len + n + (cc - (len + n)) = cc := by omega
          rw [this]; omega
      split at e
      · cases e
      rename_i old hold
      cases e
      have hsrc : srcCells h ei.size len (.slice (some a) len cap) = some old := hold
      obtain ⟨old', horun, hov, hol⟩ := firstCells_ok R.drew hsrc (VR.slice hy hsp hl1 hl2 hgr ho) (fun m hm => by cases hm; exact Nat.le_refl _)
      by_cases hin : len + n ≤ cap'
      · -- in its place
        have hcc : cap' ≠ cap := by omega
        obtain ⟨hg, hroom, h63⟩ := hgr.resolve_left hcc
        have ho' : o = a.off + y.d := ho.resolve_right (by omega)
        subst ho'
        have hes : y.es = ei.size := by
          have hrow := hok3
          unfold AHeap.rowOf at hrow
          split at hrow
          · rename_i c n' E hE
            have hE2 : E = elem := by simpa using hrow
            subst hE2
            obtain ⟨i, hi', he⟩ := R.es _ y _ _ _ hy hg hE
            rw [hi] at hi'; cases hi'; exact he
          · cases hrow
        have hmul : (len + n) * ei.size ≤ cap' * ei.size := Nat.mul_le_mul_right _ hin
        have hmul2 : (len + n) * ei.size = len * ei.size + n * ei.size := Nat.add_mul _ _ _
        rw [hes] at hroom
        obtain ⟨ψ, k1, k2, k3⟩ := R.shift (N := (len + n) * ei.size) hy hg hok3 hold (by omega) (by omega)
        have hnv' := hnv.mono k1
        have hro : h.ro ≤ a.block := by
          rcases Nat.lt_or_ge a.block h.ro with h1 | h1
          · have := R.fix _ _ hy h1; rw [hg] at this; cases this
          · exact h1
        have hvr : VR ψ (.slice (some ⟨h.next, 0, none⟩) (len + n) (len + n)) (.slice (some ⟨y.b, a.off + y.d, none⟩) (len + n) cap') :=
          .slice (a := ⟨h.next, 0, none⟩) (x := ⟨y.b, a.off + y.d, y.es, y.cs, true⟩) k2 rfl (Nat.le_refl _) hin (.inr ⟨rfl, by show 0 + (a.off + y.d) + cap' * y.es ≤ y.cs; rw [hes]; omega, h63⟩) (.inl (by simp))
        by_cases hne : new = []
        · subst hne
          cases hnv
          refine ⟨ψ, w, .slice (some ⟨y.b, a.off + y.d, none⟩) (len + n) cap', k1, ?_, by simpa using k3, hvr⟩
          exact append_fits w w hxt hu hi (hlen w) (by omega) hnrun (by simp [storeCells])
        · have hst : ((h.kill a.block).new (.cells (PT.ofList old) ((len + n) * ei.size) elem)).store ⟨h.next, len * ei.size, none⟩ new =
              some { (h.kill a.block).new (.cells (PT.ofList old) ((len + n) * ei.size) elem) with m := ((h.kill a.block).new (.cells (PT.ofList old) ((len + n) * ei.size) elem)).m.set h.next (.cells ((PT.ofList old).put (len * ei.size) new) ((len + n) * ei.size) elem) } := by
            have hkn : (h.kill a.block).next = h.next := by unfold AHeap.kill; split <;> rfl
            have hkr : (h.kill a.block).ro = h.ro := by unfold AHeap.kill; split <;> rfl
            unfold AHeap.store
            rw [if_neg (by simpa using hne)]
            simp only [Option.isSome_none, Bool.false_eq_true, if_false, AHeap.new, hkn, PT.get_set_eq, hkr]
            rw [if_pos ⟨R.ro, by rw [hnl]; omega, hok4⟩]
          obtain ⟨w', hrun, R'⟩ := k3.store hst k2 hnv'
          refine ⟨ψ, w', .slice (some ⟨y.b, a.off + y.d, none⟩) (len + n) cap', k1, ?_, R'.congr (fun B => ?_) rfl rfl, hvr⟩
          · refine append_fits w w' hxt hu hi (hlen w) (by omega) hnrun ?_
            simp only [addr_add]
            rw [show a.off + y.d + len * ei.size = len * ei.size + (a.off + y.d) by omega]
            exact hrun
          · have hkn : (h.kill a.block).next = h.next := by unfold AHeap.kill; split <;> rfl
            simp only [AHeap.new, hkn, PT.get_set]
            split
            · rw [ofList_append, hol]
            · rfl
      · -- in a new one
        obtain ⟨c, hc, hc63, hrun⟩ := append_grows (P := P) (ty := ty) (base := some ⟨y.b, o, none⟩) (len := len) (cap := cap') w hxt hu hi hz (hlen w) (by omega) hok1 horun hnrun2
        have hov2 := hov.append hnv2
        obtain ⟨ψ, k1, k2, k3, k4⟩ := (R.drew.kill hy).newRow hov2 elem ei.size (Builtin.zeroCells z.cells (c - (len + n))) true (fun _ => ⟨ei, hi, rfl⟩)
        have hkn : (h.kill a.block).next = h.next := by unfold AHeap.kill; split <;> rfl
        have hmul2 : (len + n) * ei.size = len * ei.size + n * ei.size := Nat.add_mul _ _ _
        have hll : (old ++ new).length = (len + n) * ei.size := by rw [List.length_append, hol, hnl, hmul2]
        rw [hkn] at k2
        rw [hll] at k2 k4
        refine ⟨ψ, _, _, k1, hrun, k4, ?_⟩
        refine .slice (a := ⟨h.next, 0, none⟩) k2 rfl (Nat.le_refl _) hc (.inr ⟨rfl, ?_, hc63⟩) (.inl (by simp))
        show 0 + 0 + c * ei.size ≤ (len + n) * ei.size + (Builtin.zeroCells z.cells (c - (len + n))).size
        simp only [Builtin.zeroCells, Array.size_map, Array.size_range, hok2]
        rw [← Nat.add_mul]
        have : len + n + (c - (len + n)) = c := by omega
        rw [this]; omega
  · cases e
end
end Go.Ab
