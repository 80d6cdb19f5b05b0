/- The abstract evaluator: a memory told anew under other names, no more than is known. The abstract evaluator: a loop done in parts, from told state to told state; functions with such a loop. The abstract evaluator: told calls and calls done once, with texts compared fast. The abstract evaluator: regions whose order is left open, with writing operations in no order: each history of these is taken, all end in one told state. The abstract evaluator: a call told at a told memory, used at any memory that holds it. The abstract evaluator: told calls with others behind them; calls that only read, told at what they read. The abstract evaluator: regions whose order is left open, history by history in separate theorems. The abstract evaluator: laws by segments, in one world; outcomes known ahead as told calls; a value told by a symbol. The abstract evaluator: a function of which not all arguments are known, over a memory that it may not write. -/
import Derived.Test.YtjfohamkkmopgaaGreatDoorAbS
namespace Go.Ab
open Go.RowKit
set_option linter.unusedVariables false
set_option linter.unusedSectionVars false
set_option linter.unusedSimpArgs false

section
variable [Sg] {P : Program} {W : World} {K : Nat} {J : Nat → Option Obj} {φ : Map} {h : AHeap} {w : World}

def renN (K : Nat) (ρ : Nat → Option Nat) (B D : Nat) : Bool :=
  if B < K then Nat.beq B D else match ρ B with
    | some E => Nat.beq E D
    | none => false
-- Is the second value the first one, with other names of blocks?
mutual
noncomputable def renB (K : Nat) (ρ : Nat → Option Nat) : Value → Value → Bool
  | .pointer (some a), .pointer (some b) => a.spot.isNone && (b.spot.isNone && (Nat.beq a.off b.off && renN K ρ a.block b.block))
  | .slice (some a) l c, .slice (some b) m d => a.spot.isNone && (b.spot.isNone && (Nat.beq a.off b.off && (Nat.beq l m && (Nat.beq c d && renN K ρ a.block b.block))))
  | .map (some a), .map (some b) => renN K ρ a b
  | .iface t v, .iface u w => Nat.beq t u && renB K ρ v w
  | .string s, .string t => beqL s.data.toList t.data.toList
  | .int k (.ofNat n), .int l (.ofNat m) => (kindC k).run l && Nat.beq n m
  | .agg ⟨a⟩, .agg ⟨b⟩ => renL K ρ a b
  | .tuple ⟨a⟩, .tuple ⟨b⟩ => renL K ρ a b
  | a, b => isSy a && veq a b
noncomputable def renL (K : Nat) (ρ : Nat → Option Nat) : List Value → List Value → Bool
  | [], [] => true
  | a :: l, b :: m => renB K ρ a b && renL K ρ l m
  | _, _ => false
end
def renM (K : Nat) (ρ : Nat → Option Nat) (φ : Map) : Map := fun B => if B < K then φ B else match ρ B with
  | some D => φ D
  | none => none
theorem renN_eq {K : Nat} {ρ : Nat → Option Nat} {B D : Nat} (h : renN K ρ B D = true) (φ : Map) : renM K ρ φ B = φ D := by
  simp only [renN] at h
  unfold renM
  split at h
  · rename_i hB; rw [if_pos hB, Nat.eq_of_beq_eq_true h]
  · rename_i hB
    rw [if_neg hB]
    split at h
    · rename_i E hE; rw [Nat.eq_of_beq_eq_true h]
    · cases h
theorem none_of {α : Type} {o : Option α} (h : o.isNone = true) : o = none := by cases o <;> first | rfl | cases h
mutual
theorem renB_ok {K : Nat} {ρ : Nat → Option Nat} {φ : Map} : ∀ (u v v' : Value), renB K ρ u v = true → VR φ v v' → VR (renM K ρ φ) u v'
  | .pointer (some a), v, v', h, r => by
    cases v with
    | pointer o =>
      cases o with
      | none => simp [renB, isSy, veq] at h
      | some b =>
        simp only [renB, Bool.and_eq_true] at h
        obtain ⟨h1, h2, h3, h4⟩ := h
        obtain ⟨x, hx, hs, rfl⟩ := r.ptr_inv
        have ho : a.off = b.off := Nat.eq_of_beq_eq_true h3
        rw [← ho]
        exact .ptr (by rw [renN_eq h4]; exact hx) (none_of h1)
    | _ => simp [renB, isSy, veq, noAddr] at h
  | .slice (some a) l c, v, v', h, r => by
    cases v with
    | slice o m d =>
      cases o with
      | none => simp [renB, isSy, veq, noAddr] at h
      | some b =>
        simp only [renB, Bool.and_eq_true] at h
        obtain ⟨h1, h2, h3, h4, h5, h6⟩ := h
        obtain ⟨x, cap', o, hx, hs, hl1, hl2, hgr, ho, rfl⟩ := r.slice_inv
        have e1 : a.off = b.off := Nat.eq_of_beq_eq_true h3
        have e2 : l = m := Nat.eq_of_beq_eq_true h4
        have e3 : c = d := Nat.eq_of_beq_eq_true h5
        subst e2; subst e3
        exact .slice (by rw [renN_eq h6]; exact hx) (none_of h1) hl1 hl2 (by rw [e1]; exact hgr) (by rw [e1]; exact ho)
    | _ => simp [renB, isSy, veq, noAddr] at h
  | .map (some a), v, v', h, r => by
    cases v with
    | map o =>
      cases o with
      | none => simp [renB, isSy, veq, noAddr] at h
      | some b =>
        simp only [renB] at h
        obtain ⟨x, hx, rfl⟩ := r.map_inv
        exact .map (by rw [renN_eq h]; exact hx)
    | _ => simp [renB, isSy, veq, noAddr] at h
  | .iface t u, v, v', h, r => by
    cases v with
    | iface t2 v =>
      simp only [renB, Bool.and_eq_true] at h
      have e1 := Nat.eq_of_beq_eq_true h.1
      subst e1
      obtain ⟨v1, rfl, r1⟩ := r.iface_inv
      exact .iface (renB_ok u v v1 h.2 r1)
    | _ => simp [renB, isSy, veq, noAddr] at h
  | .agg ⟨a⟩, v, v', h, r => by
    cases v with
    | agg b =>
      obtain ⟨b⟩ := b
      simp only [renB] at h
      obtain ⟨c', rfl, hc⟩ := r.agg_inv
      exact .of_aggs (renL_ok a b c'.toList h hc)
    | _ => simp [renB, isSy, veq, noAddr] at h
  | .tuple ⟨a⟩, v, v', h, r => by
    cases v with
    | tuple b =>
      obtain ⟨b⟩ := b
      simp only [renB] at h
      obtain ⟨c', rfl, hc⟩ := r.tuple_inv
      exact .of_tuples (renL_ok a b c'.toList h hc)
    | _ => simp [renB, isSy, veq, noAddr] at h
  | .bool x, v, v', h, r => flat_ok _ v v' (by simpa [renB] using h) r
  | .int k (.ofNat n), v, v', h, r => by
    cases v with
    | int l m =>
      cases m with
      | ofNat m =>
        simp only [renB, Bool.and_eq_true] at h
        have e1 := kindC_eq _ _ h.1
        have e2 := Nat.eq_of_beq_eq_true h.2
        subst e1; subst e2
        rw [r.flat_inv rfl]; exact .flat rfl
      | negSucc m => simp [renB, isSy, veq, noAddr] at h
    | _ => simp [renB, isSy, veq, noAddr] at h
  | .int k (.negSucc n), v, v', h, r => flat_ok _ v v' (by simpa [renB] using h) r
  | .float k x, v, v', h, r => flat_ok _ v v' (by simpa [renB] using h) r
  | .complex k x y, v, v', h, r => flat_ok _ v v' (by simpa [renB] using h) r
  | .string x, v, v', h, r => by
    cases v with
    | string y =>
      simp only [renB, beqL_eq, beq_iff_eq, Array.toList_inj] at h
      have e1 : x = y := ByteArray.ext h
      subst e1
      rw [r.flat_inv rfl]; exact .flat rfl
    | _ => simp [renB, isSy, veq, noAddr] at h
  | .pointer none, v, v', h, r => flat_ok _ v v' (by simpa [renB] using h) r
  | .slice none l c, v, v', h, r => flat_ok _ v v' (by simpa [renB] using h) r
  | .map none, v, v', h, r => flat_ok _ v v' (by simpa [renB] using h) r
  | .chan x, v, v', h, r => flat_ok _ v v' (by simpa [renB] using h) r
  | .func f a b, v, v', h, r => flat_ok _ v v' (by simpa [renB] using h) r
  | .nilFunc, v, v', h, r => flat_ok _ v v' (by simpa [renB] using h) r
  | .nilIface, v, v', h, r => flat_ok _ v v' (by simpa [renB] using h) r
theorem flat_ok {K : Nat} {ρ : Nat → Option Nat} {φ : Map} (u v v' : Value) (h : isSy u = true ∧ veq u v = true) (r : VR φ v v') : VR (renM K ρ φ) u v' := by
  have e := veq_eq _ _ h.2
  subst e
  exact .of_sy (r.sy (isSy_or h.1))
theorem renL_ok {K : Nat} {ρ : Nat → Option Nat} {φ : Map} : ∀ (l m m' : List Value), renL K ρ l m = true → VRs φ m m' → VRs (renM K ρ φ) l m'
  | [], m, m', h, r => by
    cases m with
    | nil => cases r; exact .nil
    | cons => simp [renL] at h
  | u :: l, m, m', h, r => by
    cases r with
    | nil => simp [renL] at h
    | cons h1 h2 =>
      simp only [renL, Bool.and_eq_true] at h
      exact .cons (renB_ok u _ _ h.1 h1) (renL_ok l _ _ h.2 h2)
end

/-! ### A memory told anew -/
/-- What is said of a block. -/
inductive CO where
  | cells (l : List Value) (e : TypeId)
  | map (es : List MapEntry) (clock : Nat)
noncomputable def CO.obj : CO → AObj
  | .cells l e => .cells (rowT 20 l) l.length e
  | .map es c => .map es c
noncomputable def rowB (K : Nat) (ρ : Nat → Option Nat) (c : PT Value) : Nat → List Value → Bool
  | _, [] => true
  | i, u :: l => (match fget c i with
    | some v => renB K ρ u v
    | none => false) && rowB K ρ c (i + 1) l
noncomputable def entB (K : Nat) (ρ : Nat → Option Nat) : List MapEntry → List MapEntry → Bool
  | [], [] => true
  | x :: l, y :: m => renB K ρ x.key y.key && (renB K ρ x.val y.val && (Nat.beq x.born y.born && entB K ρ l m))
  | _, _ => false
noncomputable def coB (K : Nat) (ρ : Nat → Option Nat) : CO → Option AObj → Bool
  | .cells l e, some (.cells c n f) => Nat.beq e f && (Nat.beq l.length n && (Nat.blt l.length 1000000 && rowB K ρ c 0 l))
  | .map es k, some (.map fs j) => Nat.beq k j && entB K ρ es fs
  | _, _ => false
theorem rowB_spec {K : Nat} {ρ : Nat → Option Nat} {c : PT Value} : ∀ (l : List Value) (i : Nat), rowB K ρ c i l = true → ∀ j u, l[j]? = some u → ∃ v, c.get (i + j) = some v ∧ renB K ρ u v = true
  | [], i, h, j, u, hu => by simp at hu
  | a :: l, i, h, j, u, hu => by
    simp only [rowB, Bool.and_eq_true] at h
    cases j with
    | zero =>
      simp at hu; subst hu
      have h1 := h.1
      rw [fget_eq] at h1
      cases hc : c.get i with
      | none => rw [hc] at h1; cases h1
      | some v => rw [hc] at h1; exact ⟨v, rfl, h1⟩
    | succ j =>
      obtain ⟨v, h2, h3⟩ := rowB_spec l (i + 1) h.2 j u (by simpa using hu)
      exact ⟨v, by rw [show i + (j + 1) = i + 1 + j by omega]; exact h2, h3⟩
theorem entB_ok {K : Nat} {ρ : Nat → Option Nat} {φ : Map} : ∀ (l m m' : List MapEntry), entB K ρ l m = true → ERs φ m m' → ERs (renM K ρ φ) l m'
  | [], m, m', h, r => by
    cases m with
    | nil => cases r; exact .nil
    | cons => simp [entB] at h
  | x :: l, m, m', h, r => by
    cases r with
    | nil => simp [entB] at h
    | cons h1 h2 h3 h4 =>
      simp only [entB, Bool.and_eq_true] at h
      have hb := Nat.eq_of_beq_eq_true h.2.2.1
      exact .cons (renB_ok _ _ _ h.1 h1) (renB_ok _ _ _ h.2.1 h2) (hb.trans h3) (entB_ok l _ _ h.2.2.2 h4)
/-- Blocks one by one, by their new and old names. -/
structure Ren (K : Nat) (ρ : Nat → Option Nat) (h : AHeap) (C : AHeap) : Prop where
  ro : h.ro = K
  cro : C.ro = K
  next : K ≤ C.next
  obj : ∀ B o, C.m.get B = some o → K ≤ B ∧ ∃ D, ρ B = some D ∧ ((∃ c n e c', o = .cells c n e ∧ h.m.get D = some (.cells c' n e) ∧ ∀ i u, i < n → c.get i = some u → ∃ v, c'.get i = some v ∧ renB K ρ u v = true) ∨
    (∃ es k es', o = .map es k ∧ h.m.get D = some (.map es' k) ∧ entB K ρ es es' = true))
  dom : ∀ B D, ρ B = some D → B < C.next ∧ K ≤ D
  inj : ∀ B B' D, ρ B = some D → ρ B' = some D → B = B'
theorem Rel.ren (R : Rel P W K J φ h w) {ρ : Nat → Option Nat} {C : AHeap} (H : Ren K ρ h C) : Rel P W K J (renM K ρ φ) C w := by
  have inv : ∀ B x, renM K ρ φ B = some x → (B < K ∧ φ B = some x) ∨ (K ≤ B ∧ ∃ D, ρ B = some D ∧ K ≤ D ∧ B < C.next ∧ φ D = some x) := by
    intro B x e
    unfold renM at e
    split at e
    · rename_i hB; exact .inl ⟨hB, e⟩
    · rename_i hB
      split at e
      · rename_i D hD; exact .inr ⟨by omega, D, hD, (H.dom B D hD).2, (H.dom B D hD).1, e⟩
      · cases e
  have fwd : ∀ B D, K ≤ B → ρ B = some D → renM K ρ φ B = φ D := by
    intro B D hB hD
    unfold renM
    rw [if_neg (by omega), hD]
  have own : ∀ B o, C.m.get B = some o → ∃ D o', K ≤ B ∧ K ≤ D ∧ ρ B = some D ∧ h.m.get D = some o' ∧ o'.live = true := by
    intro B o hB
    obtain ⟨hK, D, hD, h1 | h1⟩ := H.obj B o hB
    · obtain ⟨c, n, e, c', _, h2, _⟩ := h1; exact ⟨D, _, hK, (H.dom B D hD).2, hD, h2, rfl⟩
    · obtain ⟨es, k, es', _, h2, _⟩ := h1; exact ⟨D, _, hK, (H.dom B D hD).2, hD, h2, rfl⟩
  refine ⟨R.below, ?_, ?_, ?_, ?_, ?_, ?_, ?_, ?_⟩
  · intro B o hB
    obtain ⟨hK, D, hD, h1⟩ := H.obj B o hB
    have hDK := (H.dom B D hD).2
    have d1 : decide (h.ro ≤ D) = true := by rw [H.ro]; exact decide_eq_true hDK
    have d2 : decide (C.ro ≤ B) = true := by rw [H.cro]; exact decide_eq_true hK
    rcases h1 with ⟨c, n, e, c', rfl, h2, h3⟩ | ⟨es, k, es', rfl, h2, h3⟩
    · obtain ⟨x, hx, hobj⟩ := R.obj D _ h2
      rw [d1] at hobj
      obtain ⟨CC, f, E, k1, k0, k2, k3, k4⟩ := hobj
      refine ⟨x, by rw [fwd B D hK hD]; exact hx, ?_⟩
      rw [d2]
      exact ⟨CC, f, E, k1, k0, k2, k3, fun i u hi hu => by
        obtain ⟨v, g1, g2⟩ := h3 i u hi hu
        obtain ⟨v', g3, g4⟩ := k4 i v hi g1
        exact ⟨v', g3, renB_ok _ _ _ g2 g4⟩⟩
    · obtain ⟨x, hx, hobj⟩ := R.obj D _ h2
      obtain ⟨es2, k1, k2⟩ := hobj
      exact ⟨x, by rw [fwd B D hK hD]; exact hx, es2, k1, entB_ok _ _ _ h3 k2⟩
  · intro B x e
    rcases inv B x e with ⟨h1, _⟩ | ⟨_, D, _, _, h3, _⟩
    · have := H.next; omega
    · exact h3
  · intro B B' x y o p hB hB' l1 l2 e1 e2 e3
    obtain ⟨D, o1, hK, hDK, hD, h1, h2⟩ := own B o hB
    obtain ⟨D', o1', hK', hDK', hD', h1', h2'⟩ := own B' p hB'
    rw [fwd B D hK hD] at e1
    rw [fwd B' D' hK' hD'] at e2
    have := R.inj D D' x y _ _ h1 h1' h2 h2' e1 e2 e3
    subst this
    exact H.inj B B' D hD hD'
  · intro B x e hro
    rw [H.cro] at hro
    rcases inv B x e with ⟨h1, _⟩ | ⟨_, D, hD, hDK, _, h2⟩
    · omega
    · exact R.old D x h2 (by rw [H.ro]; exact hDK)
  · intro B hB
    obtain ⟨cs, es, e⟩ := R.self B hB
    exact ⟨cs, es, by unfold renM; rw [if_pos hB]; exact e⟩
  · rw [H.cro]; exact H.next
  · intro b O hb
    obtain ⟨j1, j2⟩ := R.junk b O hb
    refine ⟨j1, fun B x e hroB => ?_⟩
    rw [H.cro] at hroB
    rcases inv B x e with ⟨hlt, h2⟩ | ⟨_, D, _, hDK, _, h2⟩
    · omega
    · exact j2 D x h2 (by rw [H.ro]; exact hDK)
  · intro B x c n E e1 e2 e3
    obtain ⟨hK, D, hD, h1⟩ := H.obj B _ e3
    rw [fwd B D hK hD] at e1
    rcases h1 with ⟨c1, n1, e1', c1', hh, h2, _⟩ | ⟨es, k, es', hh, _, _⟩
    · cases hh; exact R.es D x _ _ _ e1 e2 h2
    · cases hh

/-! ### States told in lists -/
structure CS where
  env : List (Nat × Value)
  obs : List CO
noncomputable def putObs (K : Nat) : List CO → PT AObj
  | l => PT.nil.put K (l.map CO.obj)
noncomputable def heapC (K : Nat) (s : CS) : AHeap := ⟨PT.nil.put K (s.obs.map CO.obj), K + s.obs.length, K⟩
def envC (s : CS) : PT Value := s.env.foldl (fun t p => t.set p.1 p.2) .nil
noncomputable def envB (K : Nat) (ρ : Nat → Option Nat) (e : E3) : List (Nat × Value) → Bool
  | [] => true
  | (t, u) :: r => (match lkd e t with
    | some v => renB K ρ u v
    | none => false) && envB K ρ e r
noncomputable def obsB (K : Nat) (ρ : Nat → Option Nat) (h : AHeap) : List CO → List Nat → Bool
  | [], [] => true
  | o :: l, D :: m => Nat.ble K D && (coB K ρ o (fget h.m D) && obsB K ρ h l m)
  | _, _ => false
def distinctB : List Nat → Bool
  | [] => true
  | a :: l => (l.all fun b => !(Nat.beq a b)) && distinctB l
def renOf (K : Nat) (rl : List Nat) : Nat → Option Nat := fun B => if B < K then none else rl[B - K]?
/-- Is a state what is told, by these names? -/
noncomputable def subB (K : Nat) (s : CS) (rl : List Nat) (e : E3) (h : AHeap) : Bool :=
  Nat.beq h.ro K && (distinctB rl && (obsB K (renOf K rl) h s.obs rl && envB K (renOf K rl) e s.env))
theorem distinctB_spec : ∀ (l : List Nat), distinctB l = true → ∀ (i j a : Nat), l[i]? = some a → l[j]? = some a → i = j
  | [], _, i, j, a, h, _ => by simp at h
  | x :: l, hd, i, j, a, hi, hj => by
    simp only [distinctB, Bool.and_eq_true] at hd
    have nox : ∀ j : Nat, l[j]? ≠ some x := fun j hh => by
      have := List.all_eq_true.1 hd.1 x (List.mem_of_getElem? hh)
      simp at this
    cases i with
    | zero =>
      cases j with
      | zero => rfl
      | succ j => simp at hi hj; subst hi; exact absurd hj (nox j)
    | succ i =>
      cases j with
      | zero => simp at hi hj; subst hj; exact absurd hi (nox i)
      | succ j => simp at hi hj; rw [distinctB_spec l hd.2 i j a hi hj]
theorem obsB_spec {K : Nat} {ρ : Nat → Option Nat} {h : AHeap} : ∀ (l : List CO) (m : List Nat), obsB K ρ h l m = true → l.length = m.length ∧ ∀ (i : Nat) (o : CO), l[i]? = some o → ∃ D, m[i]? = some D ∧ K ≤ D ∧ coB K ρ o (h.m.get D) = true
  | [], [], _ => ⟨rfl, fun i o h => by simp at h⟩
  | [], _ :: _, h => by simp [obsB] at h
  | _ :: _, [], h => by simp [obsB] at h
  | o :: l, D :: m, hh => by
    simp only [obsB, Bool.and_eq_true, fget_eq] at hh
    obtain ⟨h1, h2⟩ := obsB_spec l m hh.2.2
    refine ⟨by simp [h1], fun i o' hi => ?_⟩
    cases i with
    | zero => simp at hi; subst hi; exact ⟨D, rfl, Nat.le_of_ble_eq_true hh.1, hh.2.1⟩
    | succ i => obtain ⟨D', k⟩ := h2 i o' (by simpa using hi); exact ⟨D', by simpa using k.1, k.2⟩
theorem obsB_ge {K : Nat} {ρ : Nat → Option Nat} {h : AHeap} : ∀ (l : List CO) (m : List Nat), obsB K ρ h l m = true → ∀ D ∈ m, K ≤ D
  | [], [], _ => fun D hD => by simp at hD
  | [], _ :: _, h => by simp [obsB] at h
  | _ :: _, [], h => by simp [obsB] at h
  | o :: l, D :: m, hh => by
    simp only [obsB, Bool.and_eq_true] at hh
    intro E hE
    rcases List.mem_cons.1 hE with rfl | hE
    · exact Nat.le_of_ble_eq_true hh.1
    · exact obsB_ge l m hh.2.2 E hE
theorem envB_spec {K : Nat} {ρ : Nat → Option Nat} {e : E3} : ∀ (l : List (Nat × Value)), envB K ρ e l = true → ∀ t u, (t, u) ∈ l → ∃ v, lkd e t = some v ∧ renB K ρ u v = true
  | [], _, t, u, h => by simp at h
  | (t0, u0) :: l, hh, t, u, hm => by
    simp only [envB, Bool.and_eq_true] at hh
    rcases List.mem_cons.1 hm with h1 | h1
    · obtain ⟨ht, hu⟩ := Prod.mk.inj h1
      subst ht; subst hu
      have h2 := hh.1
      cases hk : lkd e t with
      | none => rw [hk] at h2; cases h2
      | some v => rw [hk] at h2; exact ⟨v, rfl, h2⟩
    · exact envB_spec l hh.2 t u h1
theorem env_fold : ∀ (l : List (Nat × Value)) (p : PT Value) (t : Nat) (u : Value), (l.foldl (fun t p => t.set p.1 p.2) p).get t = some u → (t, u) ∈ l ∨ p.get t = some u
  | [], p, t, u, h => .inr h
  | (t0, u0) :: l, p, t, u, h => by
    rcases env_fold l _ t u h with h1 | h1
    · exact .inl (List.mem_cons_of_mem _ h1)
    · simp only at h1
      rw [PT.get_set] at h1
      split at h1
      · rename_i ht; subst ht; cases h1; exact .inl (List.mem_cons_self ..)
      · exact .inr h1
theorem sub_ok' {s : CS} {rl : List Nat} {e : E3} {n : Nat} {p : PT Value} {G : Nat → Bool} {tmps : Array Value} (R : Rel P W K J φ h w) (E : ER φ n p tmps) (L : LeE G e p) (hs : subB K s rl e h = true) :
    ∃ ψ, ψ = renM K (renOf K rl) φ ∧ Rel P W K J ψ (heapC K s) w ∧ ER ψ n (envC s) tmps := by
  simp only [subB, Bool.and_eq_true] at hs
  obtain ⟨h1, h2, h3, h4⟩ := hs
  have hro : h.ro = K := Nat.eq_of_beq_eq_true h1
  obtain ⟨hlen, hobs⟩ := obsB_spec _ _ h3
  have hge := obsB_ge _ _ h3
  refine ⟨renM K (renOf K rl) φ, rfl, R.ren ⟨hro, rfl, Nat.le_add_right _ _, ?_, ?_, ?_⟩, E.size, fun t u ht => ?_⟩
  · intro B o hB
    simp only [heapC] at hB
    rw [PT.get_put] at hB
    split at hB
    · rename_i hr
      rw [List.getElem?_map] at hB
      cases hc : s.obs[B - K]? with
      | none => rw [hc] at hB; cases hB
      | some co =>
        rw [hc] at hB
        simp only [Option.map_some, Option.some.injEq] at hB
        subst hB
        obtain ⟨D, g1, g2, g3⟩ := hobs _ _ hc
        refine ⟨hr.1, D, by unfold renOf; rw [if_neg (by omega)]; exact g1, ?_⟩
        cases co with
        | cells l e =>
          cases hm : h.m.get D with
          | none => rw [hm] at g3; simp [coB] at g3
          | some ob =>
            rw [hm] at g3
            cases ob with
            | cells c n' f =>
              simp only [coB, Bool.and_eq_true] at g3
              have e1 := Nat.eq_of_beq_eq_true g3.1
              have e2 := Nat.eq_of_beq_eq_true g3.2.1
              subst e1; subst e2
              refine .inl ⟨_, _, _, c, rfl, rfl, fun i u hi hu => ?_⟩
              have hlt : l.length < 1000000 := by have := g3.2.2.1; simp only [Nat.blt] at this; exact Nat.le_of_ble_eq_true this
              rw [rowT_get 20 l i (by omega)] at hu
              obtain ⟨v, k1, k2⟩ := rowB_spec l 0 g3.2.2.2 i u hu
              exact ⟨v, by simpa using k1, k2⟩
            | map es k => simp [coB] at g3
            | dead => simp [coB] at g3
        | map es k =>
          cases hm : h.m.get D with
          | none => rw [hm] at g3; simp [coB] at g3
          | some ob =>
            rw [hm] at g3
            cases ob with
            | cells c n' f => simp [coB] at g3
            | map fs j =>
              simp only [coB, Bool.and_eq_true] at g3
              have e1 := Nat.eq_of_beq_eq_true g3.1
              subst e1
              exact .inr ⟨_, _, fs, rfl, rfl, g3.2⟩
            | dead => simp [coB] at g3
    · simp at hB
  · intro B D hD
    unfold renOf at hD
    split at hD
    · cases hD
    · rename_i hB
      have hlt := (List.getElem?_eq_some_iff.1 hD).1
      exact ⟨by show B < K + s.obs.length; omega, hge D (List.mem_of_getElem? hD)⟩
  · intro B B' D hD hD'
    unfold renOf at hD hD'
    split at hD
    · cases hD
    · split at hD'
      · cases hD'
      · have := distinctB_spec rl h2 _ _ _ hD hD'
        omega
  · rcases env_fold _ _ t u ht with h5 | h5
    · obtain ⟨v, k1, k2⟩ := envB_spec _ h4 t u h5
      obtain ⟨v', k3, k4⟩ := E.get t v (L.1 t v k1)
      exact ⟨v', k3, renB_ok _ _ _ k2 k4⟩
    · simp at h5
theorem sub_ok {s : CS} {rl : List Nat} {e : E3} {n : Nat} {p : PT Value} {G : Nat → Bool} {tmps : Array Value} (R : Rel P W K J φ h w) (E : ER φ n p tmps) (L : LeE G e p) (hs : subB K s rl e h = true) :
    ∃ ψ, (∀ B, B < K → ψ B = φ B) ∧ Rel P W K J ψ (heapC K s) w ∧ ER ψ n (envC s) tmps := by
  obtain ⟨ψ, rfl, h1, h2⟩ := sub_ok' R E L hs
  exact ⟨_, fun B hB => by unfold renM; rw [if_pos hB], h1, h2⟩
end
end Go.Ab
namespace Go.Ab
open Go.RowKit
set_option linter.unusedVariables false
set_option linter.unusedSectionVars false
set_option linter.unusedSimpArgs false

noncomputable section
variable [Sg] {P : Program} {W : World} {K N : Nat} {J : Nat → Option Obj} {X : Ext} {call : FuncId → CallC} {callA : ACall}

/-- The first names are kept. -/
def keepL : Nat → Nat → List Nat → Bool
  | _, 0, _ => true
  | b, n + 1, x :: r => Nat.beq x b && keepL (b + 1) n r
  | _, _ + 1, [] => false
theorem keepL_spec : ∀ (n b : Nat) (l : List Nat), keepL b n l = true → ∀ i, i < n → l[i]? = some (b + i)
  | 0, b, l, _, i, hi => by omega
  | n + 1, b, [], h, i, hi => by simp [keepL] at h
  | n + 1, b, x :: r, h, i, hi => by
    simp only [keepL, Bool.and_eq_true] at h
    have h1 := Nat.eq_of_beq_eq_true h.1
    cases i with
    | zero => simp [h1]
    | succ i =>
      have := keepL_spec n (b + 1) r h.2 i (by omega)
      rw [List.getElem?_cons_succ, this]
      congr 1; omega
noncomputable def subN (K N : Nat) (s : CS) (rl : List Nat) (e : E3) (h : AHeap) : Bool := keepL K (N - K) rl && subB K s rl e h
theorem sub_okN' {φ : Map} {h : AHeap} {w : World} {s : CS} {rl : List Nat} {e : E3} {n : Nat} {p : PT Value} {G : Nat → Bool} {tmps : Array Value} (R : Rel P W K J φ h w) (E : ER φ n p tmps) (L : LeE G e p) (hs : subN K N s rl e h = true) :
    ∃ ψ, ψ = renM K (renOf K rl) φ ∧ (∀ B, B < N → ψ B = φ B) ∧ Rel P W K J ψ (heapC K s) w ∧ ER ψ n (envC s) tmps := by
  simp only [subN, Bool.and_eq_true] at hs
  obtain ⟨ψ, h1, h2, h3⟩ := sub_ok' R E L hs.2
  refine ⟨ψ, h1, fun B hB => ?_, h2, h3⟩
  rw [h1]
  unfold renM
  by_cases hK : B < K
  · rw [if_pos hK]
  · rw [if_neg hK]
    have := keepL_spec _ _ _ hs.1 (B - K) (by omega)
    unfold renOf
    rw [if_neg hK, this]
    show φ (K + (B - K)) = φ B
    congr 1; omega
theorem sub_okN {φ : Map} {h : AHeap} {w : World} {s : CS} {rl : List Nat} {e : E3} {n : Nat} {p : PT Value} {G : Nat → Bool} {tmps : Array Value} (R : Rel P W K J φ h w) (E : ER φ n p tmps) (L : LeE G e p) (hs : subN K N s rl e h = true) :
    ∃ ψ, (∀ B, B < N → ψ B = φ B) ∧ Rel P W K J ψ (heapC K s) w ∧ ER ψ n (envC s) tmps := by
  obtain ⟨ψ, _, h1, h2, h3⟩ := sub_okN' R E L hs
  exact ⟨ψ, h1, h2, h3⟩
/-- A loop's body so many times, then something else. -/
def iterK (f : E3 → AHeap → (E3 → AHeap → OutK) → OutK) (m : Nat) : E3 → AHeap → (E3 → AHeap → OutK) → OutK :=
  @Nat.rec (fun _ => E3 → AHeap → (E3 → AHeap → OutK) → OutK) (fun e h k => k e h) (fun _ ih e h k => f e h fun e h => ih e h k) m
/-- A loop at its head comes to Q. -/
def LoopWp (P : Program) (c : Code) (Q : Exit → Act → World → Prop) (a : Act) (w : World) : Prop := ∀ b k cs, ∃ y a' w', Q y a' w' ∧ Arrives P (lone (b.at a (.code c :: .inLoop c :: k)) cs w) b k cs y a' w'
theorem wp_loopWp {c : Code} {Q : Exit → Act → World → Prop} {a : Act} {w : World} (h : LoopWp P c Q a w) : (Code.loop c).wp P Q a w := by
  intro b k cs
  obtain ⟨y, a', w', hq, harr⟩ := h b k cs
  exact ⟨y, a', w', hq, .of_steps (.one step_loop) harr⟩
/-- Of the model's state an abstract one is told. -/
structure St (P : Program) (W : World) (K N : Nat) (J : Nat → Option Obj) (φ0 : Map) (n : Nat) (p : PT Value) (h : AHeap) (a : Act) (w : World) : Prop where
  ex : ∃ φ, (∀ B, B < N → φ B = φ0 B) ∧ Rel P W K J φ h w ∧ ER φ n p a.tmps
  self : ∀ B, B < N → ∃ z, φ0 B = some z
  defers : a.defers = []
theorem St.of_post {φ0 φ : Map} {n : Nat} {x y : Exit} {p : PT Value} {h : AHeap} {a : Act} {w : World} (hag : ∀ B, B < N → φ B = φ0 B) (hself : ∀ B, B < N → ∃ z, φ0 B = some z) (hp : Post P W K J φ n x p h y a w) : y = x ∧ St P W K N J φ0 n p h a w := by
  obtain ⟨h1, h2, ψ, h3, h4, h5⟩ := hp
  refine ⟨h1, ⟨ψ, fun B hB => ?_, h4, h5⟩, hself, h2⟩
  obtain ⟨z, hz⟩ := hself B hB
  rw [hz, h3 B z (by rw [hag B hB]; exact hz)]

theorem iterK_ok (hX : ExtOk P W K X) (hN : NamesOk P) (hcA : CallGood P W K callA) (hm : P.follows .mixedOrders = true) {G : Nat → Bool} {L n : Nat} {c : Code} (hok : codeOk n c = true) {f : E3 → AHeap → (E3 → AHeap → OutK) → OutK} (hf : CodeOk P K X callA G L c f) {φ0 : Map} {Q : Exit → Act → World → Prop} :
    ∀ (m : Nat) (e : E3) (h : AHeap) (k : E3 → AHeap → OutK) (r : Res) (p : PT Value), iterK f m e h k = some r → r.1 = .normal → LeE G e p →
      ∃ e' p' h', k e' h' = some r ∧ LeE G e' p' ∧ ((∀ a w, St P W K N J φ0 n p' h' a w → LoopWp P c Q a w) → ∀ a w, St P W K N J φ0 n p h a w → LoopWp P c Q a w) := by
  intro m
  induction m with
  | zero => intro e h k r p hr hn hp; exact ⟨e, p, h, hr, hp, fun hq => hq⟩
  | succ m ih =>
    intro e h k r p hr hn hp
    rcases hf e h _ r p hr hp with ⟨e1, p1, h1, g1, g2, g3⟩ | ⟨x, e1, p1, h1, g1, g2, g3, rfl⟩
    · obtain ⟨e', p', h', k1, k2, k3⟩ := ih e1 h1 k r p1 g3 hn g2
      refine ⟨e', p', h', k1, k2, fun hq a w hst b kk cs => ?_⟩
      obtain ⟨⟨φ, hag, R, E⟩, hself, hdf⟩ := hst
      obtain ⟨y, a1, w1, hp1, harr⟩ := evalC_ok (J := J) hX hN hcA hm c hok φ p h a w _ _ _ g1 R E hdf b (.inLoop c :: kk) cs
      obtain ⟨rfl, hst1⟩ := St.of_post hag hself hp1
      obtain ⟨y2, a2, w2, hq2, harr2⟩ := k3 hq a1 w1 hst1 b kk cs
      exact ⟨y2, a2, w2, hq2, .of_steps (Steps.trans harr (.one step_inLoop)) harr2⟩
    · exact absurd hn g2

/-! ### Told states -/
def e3C (s : CS) : E3 := s.env.foldl (fun e p => upd3 e p.1 p.2) none3
theorem e3C_le {G : Nat → Bool} {s : CS} (h : s.env.all (fun p => G p.1 && Nat.blt p.1 512) = true) : LeE G (e3C s) (envC s) := by
  have key : ∀ (l : List (Nat × Value)) (e : E3) (p : PT Value), l.all (fun p => G p.1 && Nat.blt p.1 512) = true → LeE G e p → LeE G (l.foldl (fun e p => upd3 e p.1 p.2) e) (l.foldl (fun t p => t.set p.1 p.2) p) := by
    intro l
    induction l with
    | nil => intro e p _ hp; exact hp
    | cons x l ih =>
      intro e p hl hp
      simp only [List.all_cons, Bool.and_eq_true] at hl
      have hlt : x.1 < 512 := by have := hl.1.2; simp only [Nat.blt] at this; exact Nat.le_of_ble_eq_true this
      exact ih _ _ hl.2 (hp.put hlt hl.1.1 x.2)
  exact key s.env none3 .nil h (none3_le G)
/-- Where a told block's name is found in a state. -/
inductive Path where
  | env (t : Nat)
  | cell (i o : Nat)
  | res (j : Nat)
  | ent (i j : Nat)
  | lit (n : Nat)
def nameOf : Value → Option Nat
  | .pointer (some a) => some a.block
  | .slice (some a) _ _ => some a.block
  | .map (some r) => some r
  | _ => none
def pathN (vs : List Value) (e : E3) (h : AHeap) (rl : List Nat) : Path → Nat
  | .res j => ((vs[j]?).bind nameOf).getD 0
  | .lit n => n
  | .env t => ((lkd e t).bind nameOf).getD 0
  | .cell i o => match rl[i]? with
    | some B => match fget h.m B with
      | some (.cells c _ _) => ((fget c o).bind nameOf).getD 0
      | _ => 0
    | none => 0
  | .ent i j => match rl[i]? with
    | some B => match fget h.m B with
      | some (.map es _) => ((es[j]?).bind fun x => nameOf x.val).getD 0
      | _ => 0
    | none => 0
def pathsN (vs : List Value) (e : E3) (h : AHeap) : List Path → List Nat → List Nat
  | [], rl => rl
  | q :: r, rl => pathsN vs e h r (rl ++ [pathN vs e h rl q])
def okN (o : OutK) : Bool := match o with
  | some (.normal, _, _) => true
  | _ => false
/-- From one told state, by so many rounds, to another. -/
def chunkN (K N : Nat) (G : Nat → Bool) (f : E3 → AHeap → (E3 → AHeap → OutK) → OutK) (ps : List Path) (s : CS) (m : Nat) (s' : CS) : Bool :=
  (s.env.all fun p => G p.1 && Nat.blt p.1 512) && okN (iterK f m (e3C s) (heapC K s) fun e h => cd (subN K N s' (pathsN [] e h ps []) e h) (some (.normal, e, h)) none)
theorem chunk_ok (hX : ExtOk P W K X) (hN : NamesOk P) (hcA : CallGood P W K callA) (hm : P.follows .mixedOrders = true) {G : Nat → Bool} {L n : Nat} {c : Code} (hok : codeOk n c = true) {f : E3 → AHeap → (E3 → AHeap → OutK) → OutK} (hf : CodeOk P K X callA G L c f) {φ0 : Map} {Q : Exit → Act → World → Prop}
    {ps : List Path} {s s' : CS} {m : Nat} (hb : chunkN K N G f ps s m s' = true) (hq : ∀ a w, St P W K N J φ0 n (envC s') (heapC K s') a w → LoopWp P c Q a w) : ∀ a w, St P W K N J φ0 n (envC s) (heapC K s) a w → LoopWp P c Q a w := by
  simp only [chunkN, Bool.and_eq_true] at hb
  obtain ⟨h1, h2⟩ := hb
  unfold okN at h2
  split at h2
  case h_2 => cases h2
  rename_i e0 h0 hr
  obtain ⟨e', p', h', k1, k2, k3⟩ := iterK_ok (J := J) (Q := Q) (φ0 := φ0) hX hN hcA hm hok hf m _ _ _ _ _ hr rfl (e3C_le h1)
  refine k3 fun a w hst => hq a w ?_
  obtain ⟨⟨φ, hag, R, E⟩, hself, hdf⟩ := hst
  cases hs : subN K N s' (pathsN [] e' h' ps []) e' h' with
  | false => rw [hs] at k1; cases k1
  | true =>
    obtain ⟨ψ, g1, g2, g3⟩ := sub_okN R E k2 hs
    exact ⟨⟨ψ, fun B hB => by rw [g1 B hB, hag B hB], g2, g3⟩, hself, hdf⟩
/-- From a told state the code comes to another. -/
def reachN (K N : Nat) (G : Nat → Bool) (f : E3 → AHeap → (E3 → AHeap → OutK) → OutK) (ps : List Path) (s : CS) (s' : CS) : Bool := chunkN K N G f ps s 1 s'
theorem reach_ok (hX : ExtOk P W K X) (hN : NamesOk P) (hcA : CallGood P W K callA) (hm : P.follows .mixedOrders = true) {G : Nat → Bool} {L n : Nat} {c : Code} (hok : codeOk n c = true) {f : E3 → AHeap → (E3 → AHeap → OutK) → OutK} (hf : CodeOk P K X callA G L c f) {φ0 : Map} {Q : Exit → Act → World → Prop}
    {ps : List Path} {s s' : CS} (hb : reachN K N G f ps s s' = true) (hq : ∀ a w, St P W K N J φ0 n (envC s') (heapC K s') a w → Q .normal a w) : ∀ a w, St P W K N J φ0 n (envC s) (heapC K s) a w → c.wp P Q a w := by
  simp only [reachN, chunkN, Bool.and_eq_true] at hb
  obtain ⟨h1, h2⟩ := hb
  unfold okN at h2
  split at h2
  case h_2 => cases h2
  rename_i e0 h0 hr
  intro a w hst
  have hr : f (e3C s) (heapC K s) (fun e h => cd (subN K N s' (pathsN [] e h ps []) e h) (some (.normal, e, h)) none) = some (.normal, e0, h0) := hr
  obtain ⟨⟨φ, hag, R, E⟩, hself, hdf⟩ := hst
  rcases hf _ _ _ _ _ hr (e3C_le h1) with ⟨e1, p1, h1', g1, g2, g3⟩ | ⟨x, e1, p1, h1', g1, g2, g3, g4⟩
  · refine wp_mono (evalC_ok (J := J) hX hN hcA hm c hok φ _ _ a w _ _ _ g1 R E hdf) fun y a' w' hp => ?_
    obtain ⟨rfl, ⟨ψ, hag', R', E'⟩, _, hdf'⟩ := St.of_post hag hself hp
    refine hq a' w' ?_
    cases hs : subN K N s' (pathsN [] e1 h1' ps []) e1 h1' with
    | false => rw [hs] at g3; cases g3
    | true =>
      obtain ⟨χ, k1, k2, k3⟩ := sub_okN R' E' g2 hs
      exact ⟨⟨χ, fun B hB => by rw [k1 B hB, hag' B hB], k2, k3⟩, hself, hdf'⟩
  · cases g4; exact absurd rfl g2
/-- .. by the loop's exit. -/
def leaveN (K N : Nat) (G : Nat → Bool) (f : E3 → AHeap → (E3 → AHeap → OutK) → OutK) (L id : Nat) (ps : List Path) (s : CS) (s' : CS) : Bool :=
  (s.env.all fun p => G p.1 && Nat.blt p.1 512) && match loopK f L (e3C s) (heapC K s) with
    | some (.exit j, e, h) => Nat.beq j id && subN K N s' (pathsN [] e h ps []) e h
    | _ => false
theorem leave_ok (hX : ExtOk P W K X) (hN : NamesOk P) (hcA : CallGood P W K callA) (hm : P.follows .mixedOrders = true) {G : Nat → Bool} {L n id : Nat} {c : Code} (hok : codeOk n c = true) {f : E3 → AHeap → (E3 → AHeap → OutK) → OutK} (hf : CodeOk P K X callA G L c f) {φ0 : Map} {Q : Exit → Act → World → Prop} {L' : Nat}
    {ps : List Path} {s s' : CS} (hb : leaveN K N G f L' id ps s s' = true) (hq : ∀ a w, St P W K N J φ0 n (envC s') (heapC K s') a w → Q (.exit id) a w) : ∀ a w, St P W K N J φ0 n (envC s) (heapC K s) a w → LoopWp P c Q a w := by
  simp only [leaveN, Bool.and_eq_true] at hb
  obtain ⟨h1, h2⟩ := hb
  split at h2
  case h_2 => cases h2
  rename_i j e1 h1' hr
  simp only [Bool.and_eq_true] at h2
  have hj := Nat.eq_of_beq_eq_true h2.1
  subst hj
  obtain ⟨x, e2, p2, h2', k1, k2, k3, k4⟩ := loopK_ok hf L' _ _ _ _ hr (e3C_le h1)
  cases k4
  intro a w hst b k cs
  obtain ⟨⟨φ, hag, R, E⟩, hself, hdf⟩ := hst
  obtain ⟨y, a', w', hp, harr⟩ := iter_ok (c := c) (n := n) (J := J) (W := W) (fun φ e h a w x e' h' => evalC_ok hX hN hcA hm c hok φ e h a w x e' h') L' φ _ _ a w _ _ _ k1 R E hdf b k cs
  obtain ⟨rfl, ⟨ψ, hag', R', E'⟩, _, hdf'⟩ := St.of_post hag hself hp
  refine ⟨_, a', w', hq a' w' ?_, harr⟩
  obtain ⟨χ, g1, g2, g3⟩ := sub_okN R' E' k3 h2.2
  exact ⟨⟨χ, fun B hB => by rw [g1 B hB, hag' B hB], g2, g3⟩, hself, hdf'⟩

/-! ### A function with such a loop -/
def flatC : Code → List Code
  | .seq a b => flatC a ++ flatC b
  | c => [c]
def seqOf : List Code → Code
  | [] => .skip
  | c :: r => .seq c (seqOf r)
def wpL (P : Program) (Q : Exit → Act → World → Prop) : List Code → Act → World → Prop
  | [] => Q .normal
  | c :: r => c.wp P (Exit.then (wpL P Q r) Q)
theorem wpL_append {Q : Exit → Act → World → Prop} : ∀ (l m : List Code) (a : Act) (w : World), wpL P Q (l ++ m) a w → wpL P (Exit.then (wpL P Q m) Q) l a w
  | [], m, a, w, h => h
  | c :: l, m, a, w, h => by
    refine wp_mono (show c.wp P (Exit.then (wpL P Q (l ++ m)) Q) a w from h) fun y a' w' hy => ?_
    cases y with
    | normal => exact wpL_append l m a' w' hy
    | _ => exact hy
theorem wpL_mono {Q Q' : Exit → Act → World → Prop} (hq : ∀ y a w, Q y a w → Q' y a w) : ∀ (l : List Code) (a : Act) (w : World), wpL P Q l a w → wpL P Q' l a w
  | [], a, w, h => hq _ _ _ h
  | c :: l, a, w, h => by
    refine wp_mono (show c.wp P (Exit.then (wpL P Q l) Q) a w from h) fun y a' w' hy => ?_
    cases y with
    | normal => exact wpL_mono hq l a' w' hy
    | _ => exact hq _ _ _ hy
theorem wp_flat : ∀ (c : Code) (Q : Exit → Act → World → Prop) (a : Act) (w : World), wpL P Q (flatC c) a w → c.wp P Q a w := by
  intro c
  have one : ∀ (c : Code) (Q : Exit → Act → World → Prop) (a : Act) (w : World), wpL P Q [c] a w → c.wp P Q a w := by
    intro c Q a w h
    refine wp_mono (show c.wp P (Exit.then (Q .normal) Q) a w from h) fun y a' w' hy => ?_
    cases y <;> exact hy
  induction c with
  | seq x y ih1 ih2 =>
    intro Q a w h
    refine wp_seq (ih1 _ a w ?_)
    refine wpL_mono (fun z a' w' hz => ?_) _ _ _ (wpL_append (flatC x) (flatC y) a w h)
    cases z with
    | normal => exact ih2 Q a' w' hz
    | _ => exact hz
  | _ => intro Q a w h; exact one _ Q a w h
theorem wpL_of_append {Q : Exit → Act → World → Prop} : ∀ (l m : List Code) (a : Act) (w : World), wpL P (Exit.then (wpL P Q m) Q) l a w → wpL P Q (l ++ m) a w
  | [], m, a, w, h => h
  | c :: l, m, a, w, h => by
    refine wp_mono (show c.wp P (Exit.then (wpL P (Exit.then (wpL P Q m) Q) l) (Exit.then (wpL P Q m) Q)) a w from h) fun y a' w' hy => ?_
    cases y with
    | normal => exact wpL_of_append l m a' w' hy
    | _ => exact hy
theorem evalL_ok (hX : ExtOk P W K X) (hN : NamesOk P) (hcA : CallGood P W K callA) (hm : P.follows .mixedOrders = true) {L n : Nat} : ∀ (l : List Code), (∀ c ∈ l, codeOk n c = true) → ∀ (φ : Map) (p : PT Value) (h : AHeap) (a : Act) (w : World) (x : Exit) (p' : PT Value) (h' : AHeap), evalC P K X callA L (seqOf l) p h = some (x, p', h') →
    Rel P W K J φ h w → ER φ n p a.tmps → a.defers = [] → wpL P (Post P W K J φ n x p' h') l a w := by
  intro l
  induction l with
  | nil => intro _ φ p h a w x p' h' he R E hdf; simp only [seqOf, evalC] at he; cases he; exact ⟨rfl, hdf, φ, φ.le_refl, R, E⟩
  | cons c l ih =>
    intro hok φ p h a w x p' h' he R E hdf
    simp only [seqOf, evalC] at he
    show c.wp P (Exit.then (wpL P (Post P W K J φ n x p' h') l) (Post P W K J φ n x p' h')) a w
    split at he
    · rename_i p1 h1 hh
      refine wp_mono (evalC_ok (J := J) hX hN hcA hm c (hok c (List.mem_cons_self ..)) φ p h a w _ _ _ hh R E hdf) ?_
      rintro y a1 w1 ⟨rfl, hdf1, ψ, hle, R1, E1⟩
      exact wpL_mono (fun y a2 w2 hp => hp.mono hle) _ _ _ (ih (fun c hc => hok c (List.mem_cons_of_mem _ hc)) ψ p1 h1 a1 w1 _ _ _ he R1 E1 hdf1)
    · rename_i hne
      refine wp_mono (evalC_ok (J := J) hX hN hcA hm c (hok c (List.mem_cons_self ..)) φ p h a w _ _ _ he R E hdf) ?_
      rintro y a1 w1 hp
      obtain ⟨rfl, hp2⟩ := hp
      cases y with
      | normal => exact absurd he (hne p' h')
      | _ => exact ⟨rfl, hp2⟩
theorem reachL_ok (hX : ExtOk P W K X) (hN : NamesOk P) (hcA : CallGood P W K callA) (hm : P.follows .mixedOrders = true) {G : Nat → Bool} {L n : Nat} {l : List Code} (hok : ∀ c ∈ l, codeOk n c = true) {f : E3 → AHeap → (E3 → AHeap → OutK) → OutK} (hf : CodeOk P K X callA G L (seqOf l) f) {φ0 : Map} {Q : Exit → Act → World → Prop}
    {ps : List Path} {s s' : CS} (hb : reachN K N G f ps s s' = true) (hq : ∀ a w, St P W K N J φ0 n (envC s') (heapC K s') a w → Q .normal a w) : ∀ a w, St P W K N J φ0 n (envC s) (heapC K s) a w → wpL P Q l a w := by
  simp only [reachN, chunkN, Bool.and_eq_true] at hb
  obtain ⟨h1, h2⟩ := hb
  unfold okN at h2
  split at h2
  case h_2 => cases h2
  rename_i e0 h0 hr
  intro a w hst
  have hr : f (e3C s) (heapC K s) (fun e h => cd (subN K N s' (pathsN [] e h ps []) e h) (some (.normal, e, h)) none) = some (.normal, e0, h0) := hr
  obtain ⟨⟨φ, hag, R, E⟩, hself, hdf⟩ := hst
  rcases hf _ _ _ _ _ hr (e3C_le h1) with ⟨e1, p1, h1', g1, g2, g3⟩ | ⟨x, e1, p1, h1', g1, g2, g3, g4⟩
  · refine wpL_mono (fun y a' w' hp => ?_) _ _ _ (evalL_ok (J := J) hX hN hcA hm l hok φ _ _ a w _ _ _ g1 R E hdf)
    obtain ⟨rfl, ⟨ψ, hag', R', E'⟩, _, hdf'⟩ := St.of_post hag hself hp
    refine hq a' w' ?_
    cases hs : subN K N s' (pathsN [] e1 h1' ps []) e1 h1' with
    | false => rw [hs] at g3; cases g3
    | true =>
      obtain ⟨χ, k1, k2, k3⟩ := sub_okN R' E' g2 hs
      exact ⟨⟨χ, fun B hB => by rw [k1 B hB, hag' B hB], k2, k3⟩, hself, hdf'⟩
  · cases g4; exact absurd rfl g2
def endsB (x : Exit) : Bool := match x with
  | .normal | .ret => true
  | _ => false
/-- From a told state to the function's end: what it gives, and what is left. -/
def finN (P : Program) (K N : Nat) (G : Nat → Bool) (f : E3 → AHeap → (E3 → AHeap → OutK) → OutK) (rs : List ResultVar) (ps : List Path) (s : CS) (u : Value) (s' : CS) : Bool :=
  (s.env.all fun p => G p.1 && Nat.blt p.1 512) && match f (e3C s) (heapC K s) (fun e h => some (.normal, e, h)) with
    | some (x, e, h) => endsB x && match (resC P rs).run e h with
      | some vs => let rl := pathsN vs e h ps []
        subN K N s' rl e h && renB K (renOf K rl) u (resVal vs)
      | none => false
    | none => false
abbrev chunkB (K : Nat) := chunkN K K
abbrev reachB (K : Nat) := reachN K K
abbrev leaveB (K : Nat) := leaveN K K
abbrev finB (P : Program) (K : Nat) := finN P K K
theorem finL_ok (hX : ExtOk P W K X) (hN : NamesOk P) (hcA : CallGood P W K callA) (hm : P.follows .mixedOrders = true) {G : Nat → Bool} {L : Nat} {fn : Func} {l : List Code} (hok : ∀ c ∈ l, codeOk fn.ntmps c = true) {f : E3 → AHeap → (E3 → AHeap → OutK) → OutK} (hf : CodeOk P K X callA G L (seqOf l) f) {φ0 : Map}
    {ps : List Path} {s s' : CS} {u : Value} (hb : finN P K N G f fn.results.toList ps s u s' = true) : ∀ a w, St P W K N J φ0 fn.ntmps (envC s) (heapC K s) a w →
    wpL P (bodyPost P fn fun en w' => ∃ ψ r', (∀ B, B < N → ψ B = φ0 B) ∧ en = .returned r' ∧ VR ψ u r' ∧ Rel P W K J ψ (heapC K s') w') l a w := by
  simp only [finN, Bool.and_eq_true] at hb
  obtain ⟨h1, h2⟩ := hb
  split at h2
  case h_2 => cases h2
  rename_i x e h hr
  simp only [Bool.and_eq_true] at h2
  obtain ⟨hx, h2⟩ := h2
  split at h2
  case h_2 => cases h2
  rename_i vs hvs
  simp only [Bool.and_eq_true] at h2
  obtain ⟨hsub, hren⟩ := h2
  intro a w hst
  obtain ⟨⟨φ, hag, R, E⟩, hself, hdf⟩ := hst
  have fin : ∀ (p' : PT Value), LeE G e p' → evalC P K X callA L (seqOf l) (envC s) (heapC K s) = some (x, p', h) →
      wpL P (bodyPost P fn fun en w' => ∃ ψ r', (∀ B, B < N → ψ B = φ0 B) ∧ en = .returned r' ∧ VR ψ u r' ∧ Rel P W K J ψ (heapC K s') w') l a w := by
    intro p' hle he
    refine wpL_mono (fun y a' w' hp => ?_) _ _ _ (evalL_ok (J := J) hX hN hcA hm l hok φ _ _ a w _ _ _ he R E hdf)
    obtain ⟨rfl, hdf', ψ0, hle0, R', E'⟩ := hp
    obtain ⟨v', k1, k2⟩ := results_ok R' E' (resC_spec hle _ _ hvs)
    have hag' : ∀ B, B < N → ψ0 B = φ0 B := fun B hB => by
      obtain ⟨z, hz⟩ := hself B hB
      rw [hz, hle0 B z (by rw [hag B hB]; exact hz)]
    have hs := hsub
    -- the final state, under its names
    have hR : ∃ rl, renM K (renOf K rl) ψ0 = renM K (renOf K (pathsN vs e h ps [])) ψ0 := ⟨_, rfl⟩
    obtain ⟨χ, g1, g0, g2, _⟩ := sub_okN' R' E' hle hs
    have hv : VR (renM K (renOf K (pathsN vs e h ps [])) ψ0) u v' := renB_ok _ _ _ hren k2
    rw [← g1] at hv
    have g1' : ∀ B, B < N → χ B = φ0 B := fun B hB => by rw [g0 B hB]; exact hag' B hB
    cases y with
    | normal => exact ⟨hdf', v', k1, χ, v', g1', rfl, hv, g2⟩
    | ret => exact ⟨hdf', v', k1, χ, v', g1', rfl, hv, g2⟩
    | _ => cases hx
  rcases hf _ _ _ _ _ hr (e3C_le h1) with ⟨e1, p1, h1', g1, g2, g3⟩ | ⟨x1, e1, p1, h1', g1, g2, g3, g4⟩
  · cases g3; exact fin p1 g2 g1
  · cases g4; exact fin p1 g3 g1
/-- Some codes, then others. -/
theorem seg_ok (hX : ExtOk P W K X) (hN : NamesOk P) (hcA : CallGood P W K callA) (hm : P.follows .mixedOrders = true) {G : Nat → Bool} {L n : Nat} {l l2 : List Code} (hok : l.all (codeOk n) = true) {f : E3 → AHeap → (E3 → AHeap → OutK) → OutK} (hf : CodeOk P K X callA G L (seqOf l) f) {φ0 : Map} {Q : Exit → Act → World → Prop}
    {ps : List Path} {s s' : CS} (hb : reachN K N G f ps s s' = true) (hq : ∀ a w, St P W K N J φ0 n (envC s') (heapC K s') a w → wpL P Q l2 a w) : ∀ a w, St P W K N J φ0 n (envC s) (heapC K s) a w → wpL P Q (l ++ l2) a w :=
  fun a w hst => wpL_of_append _ _ _ _ (reachL_ok (J := J) hX hN hcA hm (fun c hc => List.all_eq_true.1 hok c hc) hf hb (fun a w hst => hq a w hst) a w hst)
/-- A loop, in parts, then other codes. -/
theorem loop_ok (hX : ExtOk P W K X) (hN : NamesOk P) (hcA : CallGood P W K callA) (hm : P.follows .mixedOrders = true) {G : Nat → Bool} {L n id : Nat} {b : Code} {l2 : List Code} (hok : codeOk n b = true) {f : E3 → AHeap → (E3 → AHeap → OutK) → OutK} (hf : CodeOk P K X callA G L b f) {φ0 : Map} {Q : Exit → Act → World → Prop}
    {ps : List Path} {s1 s2 s3 : CS} {L' : Nat} (hchain : ∀ (Q : Exit → Act → World → Prop), (∀ a w, St P W K N J φ0 n (envC s2) (heapC K s2) a w → LoopWp P b Q a w) → ∀ a w, St P W K N J φ0 n (envC s1) (heapC K s1) a w → LoopWp P b Q a w)
    (hleave : leaveN K N G f L' id ps s2 s3 = true) (hq : ∀ a w, St P W K N J φ0 n (envC s3) (heapC K s3) a w → wpL P Q l2 a w) : ∀ a w, St P W K N J φ0 n (envC s1) (heapC K s1) a w → wpL P Q (Code.block id (.loop b) :: l2) a w := by
  intro a w hst
  show Code.wp P (Code.block id (.loop b)) (Exit.then (wpL P Q l2) Q) a w
  refine wp_block (wp_loopWp (hchain _ ?_ a w hst))
  refine leave_ok (J := J) hX hN hcA hm hok hf hleave (fun a w hst => ?_)
  show Exit.inBlock id _ (.exit id) a w
  simp only [Exit.inBlock, if_true]
  exact hq a w hst
/-- What is told of a call at an empty memory. -/
def FnTold (P : Program) (K : Nat) (fid : FuncId) (args : List Value) (u : Value) (s : CS) : Prop := ∀ (W : World) (J : Nat → Option Obj) (φ0 : Map) (w : World) (args' : List Value), Rel P W K J φ0 ⟨.nil, K, K⟩ w → VRs φ0 args args' →
    Calls P fid args'.toArray w fun en w' => ∃ ψ r', (∀ B, B < K → ψ B = φ0 B) ∧ en = .returned r' ∧ VR ψ u r' ∧ Rel P W K J ψ (heapC K s) w'
/-- .. at a told memory; the names below N are kept. -/
def FnToldS (P : Program) (K N : Nat) (fid : FuncId) (s0 : CS) (args : List Value) (u : Value) (s : CS) : Prop := ∀ (W : World) (J : Nat → Option Obj) (φ0 : Map) (w : World) (args' : List Value), Rel P W K J φ0 (heapC K s0) w → VRs φ0 args args' →
    Calls P fid args'.toArray w fun en w' => ∃ ψ r', (∀ B, B < N → ψ B = φ0 B) ∧ en = .returned r' ∧ VR ψ u r' ∧ Rel P W K J ψ (heapC K s) w'
theorem entryS_ok {fid : FuncId} {fn : Func} {c : Code} (hfn : P.funcs[fid]? = some fn) (hbody : fn.body = some c) {args : List Value} {u : Value} {s0 s4 : CS} (hlen : args.length ≤ fn.ntmps) (hN : N ≤ K + s0.obs.length)
    (h : ∀ (W : World) (J : Nat → Option Obj) (φ0 : Map) a w, St P W K N J φ0 fn.ntmps (envC ⟨args.zipIdx.map fun p => (p.2, p.1), s0.obs⟩) (heapC K ⟨args.zipIdx.map fun p => (p.2, p.1), s0.obs⟩) a w →
      wpL P (bodyPost P fn fun en w' => ∃ ψ r', (∀ B, B < N → ψ B = φ0 B) ∧ en = .returned r' ∧ VR ψ u r' ∧ Rel P W K J ψ (heapC K s4) w') (flatC c) a w) : FnToldS P K N fid s0 args u s4 := by
  intro W J φ0 w args' R ha
  refine calls_of_wp hfn hbody (wp_flat c _ _ _ (h W J φ0 _ w ?_))
  refine ⟨⟨φ0, fun B _ => rfl, R, ?_⟩, fun B hB => ?_, rfl⟩
  · have hl := ha.length
    refine ⟨by simp; omega, fun i v hv => ?_⟩
    have hm : (i, v) ∈ args.zipIdx.map fun p => (p.2, p.1) := by
      rcases env_fold _ _ i v hv with h | h
      · exact h
      · simp at h
    obtain ⟨q, hq, hqe⟩ := List.mem_map.1 hm
    have hqi := List.mem_zipIdx' hq
    simp only [Prod.mk.injEq] at hqe
    obtain ⟨rfl, rfl⟩ := hqe
    obtain ⟨v', g1, g2⟩ := ha.get q.2 q.1 (by rw [List.getElem?_eq_getElem hqi.1]; exact congrArg some hqi.2.symm)
    refine ⟨v', ?_, g2⟩
    have hlt : q.2 < args'.length := (List.getElem?_eq_some_iff.1 g1).1
    rw [Array.getElem?_append_left (by simpa using hlt)]
    simpa using g1
  · by_cases hK : B < K
    · obtain ⟨cs, es, e⟩ := R.self B hK; exact ⟨_, e⟩
    · have hlt : B - K < s0.obs.length := by omega
      have : (heapC K s0).m.get B = some (s0.obs[B - K].obj) := by
        simp only [heapC]
        rw [PT.get_put, if_pos ⟨by omega, by simp only [List.length_map]; omega⟩, List.getElem?_map, List.getElem?_eq_getElem hlt]
        rfl
      obtain ⟨x, hx, _⟩ := R.obj B _ this
      exact ⟨x, hx⟩
theorem FnToldS.bare {fid : FuncId} {args : List Value} {u : Value} {s : CS} (h : FnToldS P K K fid ⟨[], []⟩ args u s) : FnTold P K fid args u s := fun W J φ0 w args' R ha =>
  h W J φ0 w args' (R.congr (fun B => rfl) rfl rfl) ha
theorem entry_ok {fid : FuncId} {fn : Func} {c : Code} (hfn : P.funcs[fid]? = some fn) (hbody : fn.body = some c) {args : List Value} {u : Value} {s0 s4 : CS} (hs0 : s0 = ⟨args.zipIdx.map fun p => (p.2, p.1), []⟩) (hlen : args.length ≤ fn.ntmps)
    (h : ∀ (W : World) (J : Nat → Option Obj) (φ0 : Map) a w, St P W K K J φ0 fn.ntmps (envC s0) (heapC K s0) a w →
      wpL P (bodyPost P fn fun en w' => ∃ ψ r', (∀ B, B < K → ψ B = φ0 B) ∧ en = .returned r' ∧ VR ψ u r' ∧ Rel P W K J ψ (heapC K s4) w') (flatC c) a w) : FnTold P K fid args u s4 := by
  subst hs0
  exact FnToldS.bare (entryS_ok hfn hbody hlen (Nat.le_add_right _ _) h)
/-- Nothing known of the memory. -/
theorem Rel.bare {φ : Map} {h : AHeap} {w : World} (R : Rel P W K J φ h w) (hn : h.next = K) (hr : h.ro = K) : Rel P W K J φ ⟨.nil, K, K⟩ w :=
  ⟨R.below, fun B o e => by simp at e, fun B x e => by have := R.dom B x e; rw [hn] at this; exact this, fun B C x y o p e => by simp at e, fun B x e h1 => R.old B x e (by rw [hr]; exact h1),
   R.self, Nat.le_refl _, fun b O e => by rw [← hr]; exact R.junk b O e, fun B x c n E _ _ e => by simp at e⟩
/-- Calls that are told, at an empty memory. -/
abbrev Tolds := List (FuncId × List Value × Value × CS)
def toldO (K : Nat) (ts : Tolds) : Orc := fun f => match ts.lookup f with
  | some (as, u, s) => some fun args h => if h.next = K ∧ h.ro = K ∧ veqs args as = true then some (u, heapC K s) else none
  | none => none
theorem toldO_ok {ts : Tolds} (ht : ∀ f as u s, ts.lookup f = some (as, u, s) → FnTold P K f as u s) : OrcOk P W K (toldO K ts) := by
  intro f g hg args h r h' he J φ w args' R ha
  unfold toldO at hg
  split at hg
  case h_2 => cases hg
  rename_i as u s hl
  cases hg
  simp only at he
  split at he
  case isFalse => cases he
  rename_i hc
  obtain ⟨h1, h2, h3⟩ := hc
  cases he
  have := veqs_eq _ _ h3
  subst this
  refine (ht f _ _ _ hl W J φ w args' (R.bare h1 h2) ha).mono fun en w' hh => ?_
  obtain ⟨ψ, r', g1, g2, g3, g4⟩ := hh
  exact ⟨ψ, r', fun B x e => by rw [g1 B (by have := R.dom B x e; rw [h1] at this; exact this)]; exact e, g2, g3, g4⟩
end
end Go.Ab
namespace Go.Ab
open Go.RowKit
set_option linter.unusedVariables false
set_option linter.unusedSectionVars false

noncomputable section
variable [Sg]
def vsame : Value → Value → Bool
  | .string a, .string b => beqL a.data.toList b.data.toList
  | a, b => veq a b
def vsames : List Value → List Value → Bool
  | [], [] => true
  | a :: l, b :: m => vsame a b && vsames l m
  | _, _ => false
theorem vsame_eq (a b : Value) (h : vsame a b = true) : a = b := by
  unfold vsame at h
  split at h
  · rename_i x y
    rw [beqL_eq, beq_iff_eq, Array.toList_inj] at h
    rw [ByteArray.ext h]
  · exact veq_eq _ _ h
theorem vsames_eq : ∀ (l m : List Value), vsames l m = true → l = m
  | [], [], _ => rfl
  | [], _ :: _, h => by simp [vsames] at h
  | _ :: _, [], h => by simp [vsames] at h
  | a :: l, b :: m, h => by
    simp only [vsames, Bool.and_eq_true] at h
    rw [vsame_eq a b h.1, vsames_eq l m h.2]

variable {P : Program} {W : World} {K N : Nat}
/-- Calls that are told, at an empty memory. -/
def toldF (K : Nat) (ts : Tolds) : Orc := fun f => match ts.lookup f with
  | some (as, u, s) => some fun args h => if Nat.beq h.next K && (Nat.beq h.ro K && vsames args as) then some (u, heapC K s) else none
  | none => none
theorem toldF_ok {ts : Tolds} (ht : ∀ f as u s, ts.lookup f = some (as, u, s) → FnTold P K f as u s) : OrcOk P W K (toldF K ts) := by
  intro f g hg args h r h' he J φ w args' R ha
  unfold toldF at hg
  split at hg
  case h_2 => cases hg
  rename_i as u s hl
  cases hg
  simp only at he
  split at he
  case isFalse => cases he
  rename_i hc
  simp only [Bool.and_eq_true] at hc
  have h1 : h.next = K := Nat.eq_of_beq_eq_true hc.1
  have h2 : h.ro = K := Nat.eq_of_beq_eq_true hc.2.1
  cases he
  have := vsames_eq _ _ hc.2.2
  subst this
  refine (ht f _ _ _ hl W J φ w args' (R.bare h1 h2) ha).mono fun en w' hh => ?_
  obtain ⟨ψ, r', g1, g2, g3, g4⟩ := hh
  exact ⟨ψ, r', fun B x e => by rw [g1 B (by have := R.dom B x e; rw [h1] at this; exact this)]; exact e, g2, g3, g4⟩
/-- Calls done once. -/
def onceF (K : Nat) (call : ACall) (ms : Memos) : Orc := fun f =>
  if ms.any fun m => m.1 == f then some fun args h =>
    match ms.find? fun m => m.1 == f && vsames args m.2 with
      | some m => memo K (call f m.2 (heap0 K [])) h
      | none => call f args h
  else none
theorem onceF_ok {gl : List (Nat × List Value)} (hT : Told W K gl) {call : ACall} (hc : ∀ W, Told W K gl → CallGood P W K call) {ms : Memos} (hm : ms.all (fun m => m.2.all (plainV K)) = true) : OrcOk P W K (onceF K call ms) := by
  intro f g hg args h r h' he J φ w args' R ha
  unfold onceF at hg
  split at hg
  case isFalse => cases hg
  cases hg
  replace he : (match ms.find? fun m => m.1 == f && vsames args m.2 with
      | some m => memo K (call f m.2 (heap0 K [])) h
      | none => call f args h) = some (r, h') := he
  split at he
  · rename_i m hf
    have h1 := List.find?_some hf
    have h2 := List.mem_of_find?_eq_some hf
    simp only [Bool.and_eq_true] at h1
    have h3 := vsames_eq _ _ h1.2
    subst h3
    exact memo_ok (hc w (hT.later R.below)) (List.all_eq_true.1 hm m h2) he R ha
  · exact hc W hT f args h r h' he J φ w args' R ha
variable {J : Nat → Option Obj} {X : Ext} {call : FuncId → CallC} {callA : ACall}
/-- From a told state to the function's end: what it gives, and what is left. -/
def finGN (P : Program) (K N : Nat) (G : Nat → Bool) (f : E3 → AHeap → (E3 → AHeap → OutK) → OutK) (rs : List ResultVar) (nm : List Value → E3 → AHeap → List Nat) (s : CS) (u : Value) (s' : CS) : Bool :=
  (s.env.all fun p => G p.1 && Nat.blt p.1 512) && match f (e3C s) (heapC K s) (fun e h => some (.normal, e, h)) with
    | some (x, e, h) => endsB x && match (resC P rs).run e h with
      | some vs => let rl := nm vs e h
        subN K N s' rl e h && renB K (renOf K rl) u (resVal vs)
      | none => false
    | none => false
abbrev finG (P : Program) (K : Nat) := finGN P K K
theorem finG_ok (hX : ExtOk P W K X) (hN : NamesOk P) (hcA : CallGood P W K callA) (hm : P.follows .mixedOrders = true) {G : Nat → Bool} {L : Nat} {fn : Func} {l : List Code} (hok : ∀ c ∈ l, codeOk fn.ntmps c = true) {f : E3 → AHeap → (E3 → AHeap → OutK) → OutK} (hf : CodeOk P K X callA G L (seqOf l) f) {φ0 : Map}
    {nm : List Value → E3 → AHeap → List Nat} {s s' : CS} {u : Value} (hb : finGN P K N G f fn.results.toList nm s u s' = true) : ∀ a w, St P W K N J φ0 fn.ntmps (envC s) (heapC K s) a w →
    wpL P (bodyPost P fn fun en w' => ∃ ψ r', (∀ B, B < N → ψ B = φ0 B) ∧ en = .returned r' ∧ VR ψ u r' ∧ Rel P W K J ψ (heapC K s') w') l a w := by
  simp only [finGN, Bool.and_eq_true] at hb
  obtain ⟨h1, h2⟩ := hb
  split at h2
  case h_2 => cases h2
  rename_i x e h hr
  simp only [Bool.and_eq_true] at h2
  obtain ⟨hx, h2⟩ := h2
  split at h2
  case h_2 => cases h2
  rename_i vs hvs
  simp only [Bool.and_eq_true] at h2
  obtain ⟨hsub, hren⟩ := h2
  intro a w hst
  obtain ⟨⟨φ, hag, R, E⟩, hself, hdf⟩ := hst
  have fin : ∀ (p' : PT Value), LeE G e p' → evalC P K X callA L (seqOf l) (envC s) (heapC K s) = some (x, p', h) →
      wpL P (bodyPost P fn fun en w' => ∃ ψ r', (∀ B, B < N → ψ B = φ0 B) ∧ en = .returned r' ∧ VR ψ u r' ∧ Rel P W K J ψ (heapC K s') w') l a w := by
    intro p' hle he
    refine wpL_mono (fun y a' w' hp => ?_) _ _ _ (evalL_ok (J := J) hX hN hcA hm l hok φ _ _ a w _ _ _ he R E hdf)
    obtain ⟨rfl, hdf', ψ0, hle0, R', E'⟩ := hp
    obtain ⟨v', k1, k2⟩ := results_ok R' E' (resC_spec hle _ _ hvs)
    have hag' : ∀ B, B < N → ψ0 B = φ0 B := fun B hB => by
      obtain ⟨z, hz⟩ := hself B hB
      rw [hz, hle0 B z (by rw [hag B hB]; exact hz)]
    have hs := hsub
    -- the final state, under its names
    have hR : ∃ rl, renM K (renOf K rl) ψ0 = renM K (renOf K (nm vs e h)) ψ0 := ⟨_, rfl⟩
    obtain ⟨χ, g1, g0, g2, _⟩ := sub_okN' R' E' hle hs
    have hv : VR (renM K (renOf K (nm vs e h)) ψ0) u v' := renB_ok _ _ _ hren k2
    rw [← g1] at hv
    have g1' : ∀ B, B < N → χ B = φ0 B := fun B hB => by rw [g0 B hB]; exact hag' B hB
    cases y with
    | normal => exact ⟨hdf', v', k1, χ, v', g1', rfl, hv, g2⟩
    | ret => exact ⟨hdf', v', k1, χ, v', g1', rfl, hv, g2⟩
    | _ => cases hx
  rcases hf _ _ _ _ _ hr (e3C_le h1) with ⟨e1, p1, h1', g1, g2, g3⟩ | ⟨x1, e1, p1, h1', g1, g2, g3, g4⟩
  · cases g3; exact fin p1 g2 g1
  · cases g4; exact fin p1 g3 g1
/-- A function done in one. -/
theorem whole_ok (hX : ∀ W, ExtOk P W K X) (hN : NamesOk P) (hm : P.follows .mixedOrders = true) (hcA : ∀ W, CallGood P W K callA) (hle : CallLe call callA) {L : Nat} {fid : FuncId} {fn : Func} {c : Code} (hfn : P.funcs[fid]? = some fn) (hbody : fn.body = some c) (hok : (flatC c).all (codeOk fn.ntmps) = true) {args : List Value} (hlen : args.length ≤ fn.ntmps)
    {G : Nat → Bool} {nm : List Value → E3 → AHeap → List Nat} {u : Value} {s' : CS} (hb : finG P K G (codeK P K X call G L (seqOf (flatC c))).run fn.results.toList nm ⟨args.zipIdx.map fun p => (p.2, p.1), []⟩ u s' = true) : FnTold P K fid args u s' :=
  entry_ok hfn hbody rfl hlen fun W J φ0 => finG_ok (J := J) (hX W) hN (hcA W) hm (fun c hc => List.all_eq_true.1 hok c hc) (codeK_ok hle _) hb
theorem wholeS_ok (hX : ∀ W, ExtOk P W K X) (hN : NamesOk P) (hm : P.follows .mixedOrders = true) (hcA : ∀ W, CallGood P W K callA) (hle : CallLe call callA) {L : Nat} {fid : FuncId} {fn : Func} {c : Code} (hfn : P.funcs[fid]? = some fn) (hbody : fn.body = some c) (hok : (flatC c).all (codeOk fn.ntmps) = true) {args : List Value} (hlen : args.length ≤ fn.ntmps)
    {G : Nat → Bool} {nm : List Value → E3 → AHeap → List Nat} {u : Value} {s0 s' : CS} (hNle : N ≤ K + s0.obs.length) (hb : finGN P K N G (codeK P K X call G L (seqOf (flatC c))).run fn.results.toList nm ⟨args.zipIdx.map fun p => (p.2, p.1), s0.obs⟩ u s' = true) : FnToldS P K N fid s0 args u s' :=
  entryS_ok hfn hbody hlen hNle fun W J φ0 => finG_ok (J := J) (hX W) hN (hcA W) hm (fun c hc => List.all_eq_true.1 hok c hc) (codeK_ok hle _) hb
/-! ### Told calls, at any memory -/
/-- The told blocks that a value leads to, laid behind what there is. -/
def graftF (K δ : Nat) (s : CS) : List Nat → PT AObj → Option (PT AObj)
  | [], m => some m
  | B :: r, m => match s.obs[B - K]? with
    | some (.cells l e) => cond (Nat.ble K B && (Nat.blt l.length 1000000 && l.all (plainV K))) (graftF K δ s r (m.set (B + δ) (.cells (rowT 20 l) l.length e))) none
    | _ => none
theorem graftF_eq {K δ : Nat} {s : CS} : ∀ (L : List Nat) (m m' : PT AObj), graftF K δ s L m = some m' → graft K δ (heapC K s) L m = m'
  | [], m, m', h => by cases h; rfl
  | B :: r, m, m', h => by
    simp only [graftF] at h
    split at h
    · rename_i l e hc
      cases hb : (Nat.ble K B && (Nat.blt l.length 1000000 && l.all (plainV K))) with
      | false => rw [hb] at h; cases h
      | true =>
        rw [hb] at h
        simp only [Bool.and_eq_true] at hb
        obtain ⟨h1, h2, h3⟩ := hb
        have hKB : K ≤ B := Nat.le_of_ble_eq_true h1
        have hlt : l.length < 1000000 := by simp only [Nat.blt] at h2; exact Nat.le_of_ble_eq_true h2
        have hlo := (List.getElem?_eq_some_iff.1 hc).1
        have hg : (heapC K s).m.get B = some (.cells (rowT 20 l) l.length e) := by
          simp only [heapC]
          rw [PT.get_put, if_pos ⟨hKB, by simp only [List.length_map]; omega⟩, List.getElem?_map, hc]
          rfl
        have hrow : (rowT 20 l).row 0 l.length = some l := PT.row_of _ _ _ _ rfl fun j hj => by rw [Nat.zero_add]; exact rowT_get 20 l j (by omega)
        simp only [graft, hg, hrow]
        rw [if_pos ⟨hKB, h3⟩]
        exact graftF_eq r _ _ h
    · cases h
def memoF (K : Nat) (u : Value) (s : CS) (h : AHeap) : Option (Value × AHeap) :=
  cond (Nat.ble K h.next) (match shV K (h.next - K) 4 u with
    | some v => match graftF K (h.next - K) s (tops K 4 u) h.m with
      | some m => some (v, ⟨m, h.next + s.obs.length, h.ro⟩)
      | none => none
    | none => none) none
theorem memoF_eq {u : Value} {s : CS} {h : AHeap} {r : Value × AHeap} (hr : memoF K u s h = some r) : memo K (some (u, heapC K s)) h = some r := by
  unfold memoF at hr
  cases hb : Nat.ble K h.next with
  | false => rw [hb] at hr; cases hr
  | true =>
    rw [hb] at hr
    simp only [cond_true] at hr
    have hK := Nat.le_of_ble_eq_true hb
    unfold memo
    simp only
    rw [if_pos ⟨by simp [heapC], hK, rfl⟩]
    split at hr
    · rename_i v hv
      split at hr
      · rename_i m hm
        cases hr
        rw [hv]
        simp only
        rw [graftF_eq _ _ _ hm]
        simp [heapC]
      · cases hr
    · cases hr
/-- Told calls, at any memory. -/
def toldM (K : Nat) (ts : Tolds) : Orc := fun f => match ts.lookup f with
  | some (as, u, s) => some fun args h => cond (vsames args as) (memoF K u s h) none
  | none => none
def callOf (K : Nat) (ts : Tolds) : ACall := fun f args h => match toldF K ts f with
  | some g => g args h
  | none => none
theorem callOf_good {ts : Tolds} (ht : ∀ f as u s, ts.lookup f = some (as, u, s) → FnTold P K f as u s) : CallGood P W K (callOf K ts) := by
  intro f args h r h' he J φ w args' R ha
  unfold callOf at he
  split at he
  · rename_i g hg
    exact toldF_ok ht f g hg args h r h' he J φ w args' R ha
  · cases he
theorem vsame_refl (v : Value) : vsame v v = true := by
  cases v with
  | string s => show beqL s.data.toList s.data.toList = true; rw [beqL_eq]; simp
  | _ => exact veq_refl _
theorem vsames_refl : ∀ l : List Value, vsames l l = true
  | [] => rfl
  | a :: l => by simp only [vsames, vsame_refl, vsames_refl l, Bool.and_self]
theorem toldM_ok {ts : Tolds} (ht : ∀ f as u s, ts.lookup f = some (as, u, s) → FnTold P K f as u s) (hp : ∀ f as u s, ts.lookup f = some (as, u, s) → as.all (plainV K) = true) : OrcOk P W K (toldM K ts) := by
  intro f g hg args h r h' he J φ w args' R ha
  unfold toldM at hg
  split at hg
  case h_2 => cases hg
  rename_i as u s hl
  cases hg
  simp only at he
  cases hv : vsames args as with
  | false => rw [hv] at he; cases he
  | true =>
    rw [hv] at he
    have hv := vsames_eq _ _ hv
    subst hv
    have h1 : callOf K ts f args (heap0 K []) = some (u, heapC K s) := by
      unfold callOf toldF
      rw [hl]
      simp only
      rw [if_pos]
      simp [heap0, vsames_refl]
    have h2 := memoF_eq he
    rw [← h1] at h2
    exact memo_ok (w := w) (callOf_good ht) (hp f _ _ _ hl) h2 R ha
end
end Go.Ab
namespace Go.Ab
open Go.RowKit
set_option linter.unusedVariables false
set_option linter.unusedSectionVars false
set_option linter.unusedSimpArgs false

/-! ### What is asked of such a region -/
def mixReads (ops : Array Oper) (B : Array Nat) : Bool := (List.range ops.size).all fun i => match ops[i]? with
  | some o => (List.range ops.size).all fun j => match ops[j]? with
    | some p => match p.dst with
      | some d => !(o.looksAt ops).contains d || (B.getD i 0).testBit j
      | none => true
    | none => true
  | none => true
def mixOk (ops : Array Oper) : Bool := regEdges ops && regDsts ops && mixReads ops (Region.before ops)
structure MixOk (ops : Array Oper) : Prop where
  edges : ∀ (i : Nat) (o : Oper), ops[i]? = some o → ∀ e ∈ o.after, Region.binds .any e = true → e.on < i
  dsts : ∀ (i j : Nat) (o p : Oper) (d : Tmp), ops[i]? = some o → ops[j]? = some p → o.dst = some d → p.dst = some d → i = j
  reads : ∀ (i j : Nat) (o p : Oper) (d : Tmp), ops[i]? = some o → ops[j]? = some p → p.dst = some d → d ∈ o.looksAt ops → isAnc ops i j = true

theorem mixOk_of {ops : Array Oper} (h : mixOk ops = true) : MixOk ops := by
  simp only [mixOk, Bool.and_eq_true] at h
  obtain ⟨⟨h1, h2⟩, h3⟩ := h
  have hd : ∀ (i j : Nat) (o p : Oper) (d : Tmp), ops[i]? = some o → ops[j]? = some p → o.dst = some d → p.dst = some d → ¬ j < i := by
    intro i j o p d hi hj hdi hdj hlt
    have := List.all_eq_true.1 h2 i (List.mem_range.2 (lt_of_get hi))
    rw [hi] at this
    simp only [hdi] at this
    have := List.all_eq_true.1 this j (List.mem_range.2 hlt)
    rw [hj] at this
    simp only [hdj, ne_eq, not_true_eq_false, decide_false, Bool.false_eq_true] at this
  refine ⟨?_, ?_, ?_⟩
  · intro i o hi e he hb
    have := List.all_eq_true.1 h1 i (List.mem_range.2 (lt_of_get hi))
    rw [hi] at this
    have := Array.all_eq_true'.1 this e he
    rw [hb] at this
    simpa using this
  · intro i j o p d hi hj hdi hdj
    have a1 := hd i j o p d hi hj hdi hdj
    have a2 := hd j i p o d hj hi hdj hdi
    omega
  · intro i j o p d hi hj hdj hl
    have := List.all_eq_true.1 h3 i (List.mem_range.2 (lt_of_get hi))
    rw [hi] at this
    have := List.all_eq_true.1 this j (List.mem_range.2 (lt_of_get hj))
    rw [hj] at this
    simp only [hdj, Bool.or_eq_true, Bool.not_eq_true'] at this
    rcases this with h | h
    · have : (o.looksAt ops).contains d = true := List.contains_iff_mem.2 hl
      rw [h] at this; cases this
    · exact h

/-! ### The evaluation -/
variable [Sg]
def canB (A : Nat) (o : Oper) : Bool := o.after.all fun d => !Region.binds .any d || A.testBit d.on
/-- Whatever does not write is done as soon as it can be. -/
def sweep (P : Program) (K : Nat) (X : Ext) (ops : Array Oper) : List Oper → Nat → Nat → PT Value → AHeap → Option (Nat × PT Value)
  | [], _, A, e, _ => some (A, e)
  | o :: r, i, A, e, h => match quiet o.op && !A.testBit i && canB A o with
    | false => sweep P K X ops r (i + 1) A e h
    | true => match awanted ops o e with
      | none => none
      | some false => sweep P K X ops r (i + 1) (A ||| 2 ^ i) (aput e o.dst undef) h
      | some true => match aexec P X o.op (aval K e) h with
        | some (.val v, _) => sweep P K X ops r (i + 1) (A ||| 2 ^ i) (aput e o.dst v) h
        | _ => none
/-- Whatever looks at the memory, and may be done only now, sees the same. -/
def seenB (P : Program) (K : Nat) (X : Ext) (ops : Array Oper) (B : Array Nat) (A : Nat) (e : PT Value) (h : AHeap) : Bool := (List.range ops.size).all fun i => match ops[i]? with
  | some o => !A.testBit i || !quiet o.op || !reads o.op || ((List.range ops.size).any fun m => match ops[m]? with
      | some p => A.testBit m && !quiet p.op && (B.getD m 0).testBit i
      | none => false) || match o.dst with
    | none => false
    | some d => match awanted ops o e, e.get d with
      | some false, some v => veq v undef
      | some true, some v => match aexec P X o.op (aval K e) h with
        | some (.val u, _) => veq u v
        | _ => false
      | _, _ => false
  | none => true
def mixB (P : Program) (K : Nat) (X : Ext) (call : ACall) (ops : Array Oper) (B : Array Nat) (k : PT Value → AHeap → Bool) : Nat → Nat → PT Value → AHeap → Bool
  | 0, _, _, _ => false
  | f + 1, A, e, h => match sweep P K X ops ops.toList 0 A e h with
    | none => false
    | some (A, e) => seenB P K X ops B A e h && (!((List.range ops.size).all fun i => A.testBit i) || k e h) && (List.range ops.size).all fun i => match ops[i]? with
      | some o => quiet o.op || A.testBit i || !canB A o || match awanted ops o e with
        | none => false
        | some false => mixB P K X call ops B k f (A ||| 2 ^ i) (aput e o.dst undef) h
        | some true => match astep P K X call o.op e h with
          | some (v, h1) => mixB P K X call ops B k f (A ||| 2 ^ i) (aput e o.dst v) h1
          | none => false
      | none => true

theorem MixOk.anc_lt {ops : Array Oper} (ok : MixOk ops) {i j : Nat} (h : isAnc ops i j = true) : j < i :=
  anc_rel (T := fun i j => j < i) (fun i o ho e he hb => by
    have := ok.edges i o ho e he hb
    exact ⟨this, fun j hj => by omega⟩) h

section
variable {P : Program} {W : World} {K N : Nat} {J : Nat → Option Obj} {X : Ext} {call : ACall} {ops : Array Oper} {e0 : PT Value}
theorem bit_or (A i j : Nat) : (A ||| 2 ^ i).testBit j = (A.testBit j || decide (i = j)) := by rw [Nat.testBit_or, Nat.testBit_two_pow]
/-- What is known of what was evaluated. -/
structure NodeOk (P : Program) (K : Nat) (X : Ext) (ops : Array Oper) (e0 : PT Value) (A : Nat) (e : PT Value) : Prop where
  down : Closed ops (fun j => A.testBit j = true)
  old : ∀ d v, e.get d = some v → (∃ i o, ops[i]? = some o ∧ A.testBit i = true ∧ o.dst = some d) ∨ e0.get d = some v
  has : ∀ (i : Nat) (o : Oper) (d : Tmp), ops[i]? = some o → A.testBit i = true → o.dst = some d → ∃ v, e.get d = some v
  vals : ∀ (i : Nat) (o : Oper), ops[i]? = some o → A.testBit i = true → quiet o.op = true → reads o.op = false → ∃ v, (∀ d, o.dst = some d → e.get d = some v) ∧
    ((awanted ops o e = some false ∧ v = undef) ∨ (awanted ops o e = some true ∧ ∀ g, aexec P X o.op (aval K e) g = some (.val v, g)))

theorem aput_ne {e : PT Value} {dst : Option Tmp} {d : Nat} (v : Value) (h : dst ≠ some d) : (aput e dst v).get d = e.get d := by
  cases dst with
  | none => rfl
  | some x => exact PT.get_set_ne _ _ (fun hx => h (by rw [hx]))
theorem aput_eq {e : PT Value} {d : Nat} (v : Value) : (aput e (some d) v).get d = some v := PT.get_set_eq _ _ _
/-- What an operation looks at is as it was when a later one is done. -/
theorem looks_put (ok : MixOk ops) {A : Nat} (hdown : Closed ops (fun j => A.testBit j = true)) {i j : Nat} {o p : Oper} (hi : ops[i]? = some o) (hj : ops[j]? = some p) (hA : A.testBit i = false) (hji : A.testBit j = true ∨ j = i) (e : PT Value) (v : Value) :
    (∀ x ∈ p.op.operands, aval K (aput e o.dst v) x = aval K e x) ∧ awanted ops p (aput e o.dst v) = awanted ops p e := by
  have key : ∀ d, d ∈ p.looksAt ops → (aput e o.dst v).get d = e.get d := by
    intro d hd
    refine aput_ne v fun hdst => ?_
    have := ok.reads j i p o d hj hi hdst hd
    rcases hji with h | h
    · have := anc_closed hdown this h
      rw [hA] at this; cases this
    · subst h
      have := ok.anc_lt this
      omega
  refine ⟨fun x hx => ?_, ?_⟩
  · cases x with
    | tmp t =>
      simp only [aval]
      exact key t (List.mem_append_left _ (List.mem_filterMap.2 ⟨.tmp t, by simpa using hx, rfl⟩))
    | _ => rfl
  · unfold awanted
    cases hg : p.guard with
    | none => rfl
    | some jw =>
      obtain ⟨q, want⟩ := jw
      simp only
      cases hd : (ops[q]?).bind (·.dst) with
      | none => rfl
      | some d =>
        simp only
        have : d ∈ p.looksAt ops := by
          unfold Oper.looksAt
          rw [hg]
          refine List.mem_append_right _ ?_
          simp only [hd]
          simp
        rw [key d this]

theorem canB_spec {A : Nat} {o : Oper} (h : canB A o = true) : ∀ e ∈ o.after, Region.binds .any e = true → A.testBit e.on = true := by
  intro e he hb
  have := Array.all_eq_true'.1 h e he
  simpa [hb] using this
theorem canB_of {A : Nat} {o : Oper} (h : ∀ e ∈ o.after, Region.binds .any e = true → A.testBit e.on = true) : canB A o = true := by
  refine Array.all_eq_true'.2 fun e he => ?_
  cases hb : Region.binds .any e with
  | false => rfl
  | true => simp [h e he hb]
/-- One more operation is done. -/
theorem NodeOk.put (ok : MixOk ops) {A : Nat} {e : PT Value} (N : NodeOk P K X ops e0 A e) {i : Nat} {o : Oper} (hi : ops[i]? = some o) (hA : A.testBit i = false) (hcan : canB A o = true) (v : Value)
    (hv : quiet o.op = true → reads o.op = false → (awanted ops o e = some false ∧ v = undef) ∨ (awanted ops o e = some true ∧ ∀ g, aexec P X o.op (aval K e) g = some (.val v, g))) :
    NodeOk P K X ops e0 (A ||| 2 ^ i) (aput e o.dst v) := by
  have hin : ∀ j, (A ||| 2 ^ i).testBit j = true → A.testBit j = true ∨ j = i := by
    intro j hj
    rw [bit_or] at hj
    simp only [Bool.or_eq_true, decide_eq_true_eq] at hj
    exact hj.imp id Eq.symm
  have hdst : ∀ j p d, ops[j]? = some p → A.testBit j = true → p.dst = some d → o.dst ≠ some d := by
    intro j p d hj hAj hd ho
    have := ok.dsts i j o p d hi hj ho hd
    subst this
    rw [hA] at hAj; cases hAj
  refine ⟨?_, ?_, ?_, ?_⟩
  · intro j p hj hS d hd hb
    show (A ||| 2 ^ i).testBit d.on = true
    rw [bit_or]
    rcases hin j hS with h | h
    · rw [N.down j p hj h d hd hb]; rfl
    · subst h
      rw [hi] at hj; cases hj
      rw [canB_spec hcan d hd hb]; rfl
  · intro d u hu
    by_cases hd : o.dst = some d
    · exact .inl ⟨i, o, hi, by rw [bit_or]; simp, hd⟩
    · rw [aput_ne v hd] at hu
      rcases N.old d u hu with ⟨j, p, h1, h2, h3⟩ | h
      · exact .inl ⟨j, p, h1, by rw [bit_or, h2]; rfl, h3⟩
      · exact .inr h
  · intro j p d hj hS hd
    rcases hin j hS with h | h
    · rw [aput_ne v (hdst j p d hj h hd)]
      exact N.has j p d hj h hd
    · subst h
      rw [hi] at hj; cases hj
      rw [hd]; exact ⟨v, aput_eq v⟩
  · intro j p hj hS hq hr
    obtain ⟨l1, l2⟩ := looks_put (K := K) ok N.down hi hj hA (hin j hS) e v
    rcases hin j hS with h | h
    · obtain ⟨u, h1, h2⟩ := N.vals j p hj h hq hr
      refine ⟨u, fun d hd => by rw [aput_ne v (hdst j p d hj h hd)]; exact h1 d hd, ?_⟩
      rw [l2]
      refine h2.imp id fun h => ⟨h.1, fun g => ?_⟩
      rw [aexec_congr l1]
      exact h.2 g
    · subst h
      rw [hi] at hj; cases hj
      refine ⟨v, fun d hd => by rw [hd]; exact aput_eq v, ?_⟩
      rw [l2]
      refine (hv hq hr).imp id fun h => ⟨h.1, fun g => ?_⟩
      rw [aexec_congr l1]
      exact h.2 g

theorem sweep_ok (ok : MixOk ops) {h : AHeap} : ∀ (l : List Oper) (i A : Nat) (e : PT Value) (A' : Nat) (e' : PT Value), (∀ j, l[j]? = ops[i + j]?) → NodeOk P K X ops e0 A e → sweep P K X ops l i A e h = some (A', e') →
    NodeOk P K X ops e0 A' e' ∧ (∀ k, A.testBit k = true → A'.testBit k = true) ∧ (∀ k, k < i → A'.testBit k = A.testBit k) ∧ (∀ k o, ops[k]? = some o → quiet o.op = false → A'.testBit k = A.testBit k) ∧
      (∀ k o d v, ops[k]? = some o → A.testBit k = true → o.dst = some d → e.get d = some v → e'.get d = some v) ∧
      (∀ k o, ops[k]? = some o → i ≤ k → quiet o.op = true → canB A' o = true → A'.testBit k = true) := by
  intro l
  induction l with
  | nil =>
    intro i A e A' e' hl N hs
    simp only [sweep, Option.some.injEq, Prod.mk.injEq] at hs
    obtain ⟨rfl, rfl⟩ := hs
    refine ⟨N, fun _ h => h, fun _ _ => rfl, fun _ _ _ _ => rfl, fun _ _ _ _ _ _ _ h => h, fun k o hk hik => ?_⟩
    have := hl (k - i)
    rw [show i + (k - i) = k by omega, hk] at this
    simp at this
  | cons o r ih =>
    intro i A e A' e' hl N hs
    have hi : ops[i]? = some o := by have := hl 0; simpa using this.symm
    have hr : ∀ j, r[j]? = ops[i + 1 + j]? := fun j => by
      have := hl (j + 1)
      rw [List.getElem?_cons_succ] at this
      rw [this]; congr 1; omega
    simp only [sweep] at hs
    -- both ways that the operation is done
    have done : ∀ v, quiet o.op = true → A.testBit i = false → canB A o = true → (reads o.op = false → (awanted ops o e = some false ∧ v = undef) ∨ (awanted ops o e = some true ∧ ∀ g, aexec P X o.op (aval K e) g = some (.val v, g))) →
        sweep P K X ops r (i + 1) (A ||| 2 ^ i) (aput e o.dst v) h = some (A', e') → _ := fun v hq hA hcan hv hs =>
      ih (i + 1) (A ||| 2 ^ i) (aput e o.dst v) A' e' hr (N.put ok hi hA hcan v (fun _ => hv)) hs
    have fin : ∀ v, quiet o.op = true → A.testBit i = false → canB A o = true → (reads o.op = false → (awanted ops o e = some false ∧ v = undef) ∨ (awanted ops o e = some true ∧ ∀ g, aexec P X o.op (aval K e) g = some (.val v, g))) →
        sweep P K X ops r (i + 1) (A ||| 2 ^ i) (aput e o.dst v) h = some (A', e') → NodeOk P K X ops e0 A' e' ∧ (∀ k, A.testBit k = true → A'.testBit k = true) ∧ (∀ k, k < i → A'.testBit k = A.testBit k) ∧ (∀ k o, ops[k]? = some o → quiet o.op = false → A'.testBit k = A.testBit k) ∧
      (∀ k o d v, ops[k]? = some o → A.testBit k = true → o.dst = some d → e.get d = some v → e'.get d = some v) ∧
      (∀ k o, ops[k]? = some o → i ≤ k → quiet o.op = true → canB A' o = true → A'.testBit k = true) := by
      intro v hq hA hcan hv hs
      obtain ⟨g1, g2, g3, g4, g5, g6⟩ := done v hq hA hcan hv hs
      refine ⟨g1, fun k hk => g2 k (by rw [bit_or, hk]; rfl), fun k hk => ?_, fun k p hk hqk => ?_, fun k p d u hk hAk hd hu => ?_, fun k p hk hik hqk hck => ?_⟩
      · rw [g3 k (by omega), bit_or]; simp; omega
      · rw [g4 k p hk hqk, bit_or]
        have : i ≠ k := fun h => by subst h; rw [hi] at hk; cases hk; rw [hq] at hqk; cases hqk
        simp [this]
      · refine g5 k p d u hk (by rw [bit_or, hAk]; rfl) hd ?_
        rw [aput_ne]; exact hu
        intro ho
        have := ok.dsts i k o p d hi hk ho hd
        subst this
        rw [hA] at hAk; cases hAk
      · by_cases hik2 : i = k
        · subst hik2; exact g2 _ (by rw [bit_or]; simp)
        · exact g6 k p hk (by omega) hqk hck
    split at hs
    · rename_i hb
      obtain ⟨g1, g2, g3, g4, g5, g6⟩ := ih (i + 1) A e A' e' hr N hs
      refine ⟨g1, g2, fun k hk => g3 k (by omega), g4, g5, fun k p hk hik hqk hck => ?_⟩
      by_cases hik2 : i = k
      · subst hik2
        rw [hi] at hk; cases hk
        have hcan : canB A o = true := canB_of fun d hd hbd => by
          have := canB_spec hck d hd hbd
          rw [g3 d.on (by have := ok.edges i o hi d hd hbd; omega)] at this
          exact this
        rw [hqk, hcan] at hb
        simp only [Bool.true_and, Bool.and_true, Bool.not_eq_false'] at hb
        exact g2 _ hb
      · exact g6 k p hk (by omega) hqk hck
    · rename_i hb
      simp only [Bool.and_eq_true, Bool.not_eq_true'] at hb
      obtain ⟨⟨hq, hA⟩, hcan⟩ := hb
      split at hs
      · cases hs
      · rename_i hw
        exact fin undef hq hA hcan (fun _ => .inl ⟨hw, rfl⟩) hs
      · rename_i hw
        split at hs
        · rename_i v g hx
          refine fin v hq hA hcan (fun hrd => .inr ⟨hw, fun g => ?_⟩) hs
          exact quiet_free hq hrd hx g
        · cases hs

/-! ### Towards the model -/
structure NInv (P : Program) (W : World) (K : Nat) (J : Nat → Option Obj) (φ : Map) (ops : Array Oper) (e0 : PT Value) (A : Nat) (e : PT Value) (h : AHeap) (n : Nat) (listed : Array Bool) (a : Act) (w : World) : Prop where
  size : listed.size = ops.size
  closed : Closed ops (fun j => listed.getD j false = true)
  defers : a.defers = []
  tmps : a.tmps.size = n
  sub : ∀ (i : Nat) (o : Oper), ops[i]? = some o → listed.getD i false = true → A.testBit i = true
  non : ∀ (i : Nat) (o : Oper), ops[i]? = some o → quiet o.op = false → A.testBit i = true → listed.getD i false = true
  mem : ∃ ψ, φ.le ψ ∧ Rel P W K J ψ h w ∧
    (∀ (i : Nat) (o : Oper) (d : Tmp) (v : Value), ops[i]? = some o → listed.getD i false = true → o.dst = some d → e.get d = some v → ∃ v', a.tmps[d]? = some v' ∧ VR ψ v v') ∧
    (∀ (d : Tmp) (v : Value), e0.get d = some v → (∀ (i : Nat) (o : Oper), ops[i]? = some o → listed.getD i false = true → o.dst ≠ some d) → ∃ v', a.tmps[d]? = some v' ∧ VR ψ v v')

theorem ninv_next {φ ψ ψ' : Map} (ok : MixOk ops) {n : Nat} (hd : ∀ o ∈ ops.toList, dstOk n o = true) {listed : Array Bool} {a : Act} {w w' : World} {A A2 i : Nat} {e e2 : PT Value} {h h2 : AHeap} {o : Oper} {v v' : Value}
    (inv : NInv P W K J φ ops e0 A e h n listed a w) (ho : ops[i]? = some o) (hun : listed.getD i true = false) (hafter : ∀ e ∈ o.after, Region.binds .any e = true → listed.getD e.on false = true)
    (hA1 : ∀ k, A.testBit k = true → A2.testBit k = true) (hA2 : A2.testBit i = true) (hA3 : ∀ k, A2.testBit k = true → A.testBit k = true ∨ k = i) (he1 : ∀ d, o.dst = some d → e2.get d = some v) (he2 : ∀ d, o.dst ≠ some d → e2.get d = e.get d)
    (hle : φ.le ψ) (hle' : ψ.le ψ') (m1 : ∀ (i : Nat) (o : Oper) (d : Tmp) (v : Value), ops[i]? = some o → listed.getD i false = true → o.dst = some d → e.get d = some v → ∃ v', a.tmps[d]? = some v' ∧ VR ψ v v')
    (m2 : ∀ (d : Tmp) (v : Value), e0.get d = some v → (∀ (i : Nat) (o : Oper), ops[i]? = some o → listed.getD i false = true → o.dst ≠ some d) → ∃ v', a.tmps[d]? = some v' ∧ VR ψ v v')
    (R : Rel P W K J ψ' h2 w') (hv : VR ψ' v v') : NInv P W K J φ ops e0 A2 e2 h2 n (listed.setIfInBounds i true) (a.put o.dst v') w' := by
  have hlt : i < listed.size := by rw [inv.size]; exact lt_of_get ho
  have hli : listed.getD i false = false := by simp [hlt] at hun ⊢; exact hun
  have hmem : dstOk n o = true := hd o (by simpa using List.mem_of_getElem? (show ops.toList[i]? = some o by simpa using ho))
  refine ⟨by simpa using inv.size, ?_, by rw [Act.put_defers']; exact inv.defers, ?_, ?_, ?_, ?_⟩
  · intro j oj hj hl e he hb
    rw [getD_set' hlt] at hl ⊢
    split
    · rfl
    · by_cases hij : i = j
      · subst hij
        rw [ho] at hj; cases hj
        exact hafter e he hb
      · rw [if_neg hij] at hl
        exact inv.closed j oj hj hl e he hb
  · have : (a.put o.dst v').tmps.size = a.tmps.size := by cases o.dst <;> simp [Act.put]
    rw [this]; exact inv.tmps
  · intro j oj hj hl
    rw [getD_set' hlt] at hl
    by_cases hij : i = j
    · subst hij; exact hA2
    · rw [if_neg hij] at hl; exact hA1 j (inv.sub j oj hj hl)
  · intro j oj hj hq hAj
    rw [getD_set' hlt]
    by_cases hij : i = j
    · rw [if_pos hij]
    · rw [if_neg hij]
      rcases hA3 j hAj with h | h
      · exact inv.non j oj hj hq h
      · exact absurd h.symm hij
  · refine ⟨ψ', Map.le_trans hle hle', R, ?_, ?_⟩
    · intro j oj d u hj hl hdj hu
      rw [getD_set' hlt] at hl
      by_cases hij : i = j
      · subst hij
        rw [ho] at hj; cases hj
        rw [he1 d hdj] at hu; cases hu
        refine ⟨v', ?_, hv⟩
        unfold dstOk at hmem
        rw [hdj] at hmem
        simp only [decide_eq_true_eq] at hmem
        rw [hdj]
        simp [Act.put, inv.tmps, hmem]
      · rw [if_neg hij] at hl
        have hne : o.dst ≠ some d := fun he => hij (ok.dsts i j o oj d ho hj he hdj)
        rw [he2 d hne] at hu
        obtain ⟨u', h1, h2⟩ := m1 j oj d u hj hl hdj hu
        exact ⟨u', by rw [put_get_ne _ hne]; exact h1, h2.mono hle'⟩
    · intro d u hu hno
      have hod : o.dst ≠ some d := hno i o ho (by rw [getD_set' hlt, if_pos rfl])
      obtain ⟨u', h1, h2⟩ := m2 d u hu (fun j oj hj hl => hno j oj hj (by rw [getD_set' hlt]; split; rfl; exact hl))
      exact ⟨u', by rw [put_get_ne _ hod]; exact h1, h2.mono hle'⟩

set_option maxHeartbeats 1000000 in
theorem mix_any (hX : ExtOk P W K X) (hN : NamesOk P) (hc : CallGood P W K call) {n : Nat} (hd : ∀ o ∈ ops.toList, dstOk n o = true) (ok : MixOk ops) {φ : Map} {k : PT Value → AHeap → Bool} {Q : Exit → Act → World → Prop}
    (hQ : ∀ e h a w, k e h = true → Post P W K J φ n .normal e h .normal a w → Q .normal a w) :
    ∀ (f A0 : Nat) (e1 : PT Value) (h : AHeap), mixB P K X call ops (Region.before ops) k f A0 e1 h = true → NodeOk P K X ops e0 A0 e1 →
      ∀ (c : Nat) (listed : Array Bool) (a : Act) (w : World), NInv P W K J φ ops e0 A0 e1 h n listed a w → listed.toList.count false = c → wpAny P .any ops Q c listed a w := by
  have hready : ∀ (listed : Array Bool), listed.size = ops.size → Region.ready .any ops listed = [] → ∀ i, i < ops.size → listed.getD i false = true := by
    intro listed hsz hr i
    induction i using Nat.strongRecOn with
    | _ i ih =>
      intro hi
      cases hli : listed.getD i false with
      | true => rfl
      | false =>
        exfalso
        have hlt : i < listed.size := by omega
        have hmem : i ∈ Region.ready .any ops listed := by
          refine mem_ready.2 ⟨by simp [hlt] at hli ⊢; exact hli, ops[i], by simp [hi], fun e he hb => ?_⟩
          have := ok.edges i ops[i] (by simp [hi]) e he hb
          exact ih e.on this (by omega)
        rw [hr] at hmem; cases hmem
  intro f
  induction f with
  | zero => intro A0 e1 h hb; simp [mixB] at hb
  | succ f ihf =>
    intro A0 e1 h hb N0
    simp only [mixB] at hb
    split at hb
    · cases hb
    rename_i A e hs
    simp only [Bool.and_eq_true] at hb
    obtain ⟨⟨hseen, hend⟩, hall⟩ := hb
    obtain ⟨N, s1, s2, s3, s4, s5⟩ := sweep_ok ok ops.toList 0 A0 e1 A e (fun j => by simp) N0 hs
    -- at the swept node
    have main : ∀ (c : Nat) (listed : Array Bool) (a : Act) (w : World), NInv P W K J φ ops e0 A e h n listed a w → listed.toList.count false = c → wpAny P .any ops Q c listed a w := by
      have hfin : ∀ (listed : Array Bool) (a : Act) (w : World), NInv P W K J φ ops e0 A e h n listed a w → (∀ i, i < ops.size → listed.getD i false = true) → Q .normal a w := by
        intro listed a w inv hl
        have hA : ((List.range ops.size).all fun i => A.testBit i) = true := List.all_eq_true.2 fun i hi => by
          have hi := List.mem_range.1 hi
          exact inv.sub i ops[i] (by simp [hi]) (hl i hi)
        rw [hA] at hend
        obtain ⟨ψ, m0, mR, m1, m2⟩ := inv.mem
        refine hQ e h a w (by simpa using hend) ⟨rfl, inv.defers, ψ, m0, mR, inv.tmps, fun d v hv => ?_⟩
        by_cases hex : ∃ (i : Nat) (o : Oper), ops[i]? = some o ∧ o.dst = some d
        · obtain ⟨i, o, ho, hod⟩ := hex
          exact m1 i o d v ho (hl i (lt_of_get ho)) hod hv
        · rcases N.old d v hv with ⟨i, o, ho, _, hod⟩ | h0
          · exact absurd ⟨i, o, ho, hod⟩ hex
          · exact m2 d v h0 (fun i o ho _ hod => hex ⟨i, o, ho, hod⟩)
      intro c
      induction c with
      | zero =>
        intro listed a w inv hcount
        have hnone : Region.ready .any ops listed = [] := by
          cases hr : Region.ready .any ops listed with
          | nil => rfl
          | cons i l =>
            exfalso
            have hi : i ∈ Region.ready .any ops listed := by rw [hr]; simp
            obtain ⟨h1, o, ho, _⟩ := mem_ready.1 hi
            have hlt : i < listed.size := by rw [inv.size]; exact lt_of_get ho
            have := getD_false hlt h1
            have := count_set _ _ this
            omega
        exact ⟨hnone, hfin listed a w inv (hready listed inv.size hnone)⟩
      | succ c ihc =>
        intro listed a w inv hcount
        refine ⟨fun hr => hfin listed a w inv (hready listed inv.size hr), fun i hi => ?_⟩
        obtain ⟨hun, o, ho, hafter⟩ := mem_ready.1 hi
        have hlt : i < listed.size := by rw [inv.size]; exact lt_of_get ho
        have hli : listed.getD i false = false := by simp [hlt] at hun ⊢; exact hun
        have hcnt : (listed.setIfInBounds i true).toList.count false = c := by
          have := count_set _ _ (getD_false hlt hun)
          rw [Array.toList_setIfInBounds]
          omega
        have hanc : ∀ j, isAnc ops i j = true → listed.getD j false = true := by
          intro j hj
          have hcl : Closed ops (fun k => listed.getD k false = true ∨ k = i) := by
            intro k ok' hk hS e he hb
            rcases hS with hS | hS
            · exact .inl (inv.closed k ok' hk hS e he hb)
            · subst hS
              rw [ho] at hk; cases hk
              exact .inl (hafter e he hb)
          rcases anc_closed hcl hj (.inr rfl) with h | h
          · exact h
          · have := ok.anc_lt hj; omega
        have hcan : canB A o = true := canB_of fun d hd hb => by
          have hl := hafter d hd hb
          have hlt2 : d.on < ops.size := by
            have := ok.edges i o ho d hd hb
            have := lt_of_get ho
            omega
          exact inv.sub d.on ops[d.on] (by simp [hlt2]) hl
        obtain ⟨ψ, m0, mR, m1, m2⟩ := inv.mem
        -- the slots that it looks at
        have ER' : ER ψ n (only e (o.looksAt ops)) a.tmps := by
          refine ⟨inv.tmps, fun d v hv => ?_⟩
          obtain ⟨hv1, hdl⟩ := (only_get e (o.looksAt ops) d).1 v hv
          by_cases hex : ∃ (j : Nat) (p : Oper), ops[j]? = some p ∧ p.dst = some d
          · obtain ⟨j, p, hj, hpd⟩ := hex
            exact m1 j p d v hj (hanc j (ok.reads i j o p d ho hj hpd hdl)) hpd hv1
          · rcases N.old d v hv1 with ⟨j, p, hj, _, hpd⟩ | h0
            · exact absurd ⟨j, p, hj, hpd⟩ hex
            · exact m2 d v h0 (fun j p hj _ hpd => hex ⟨j, p, hj, hpd⟩)
        have hE := aval_ok mR ER'
        have hal := List.all_eq_true.1 hall i (List.mem_range.2 (lt_of_get ho))
        rw [ho] at hal
        simp only [hcan, Bool.not_true, Bool.or_false] at hal
        unfold wpOp
        rw [ho]
        simp only
        cases hq : quiet o.op with
        | true =>
          have hAi : A.testBit i = true := s5 i o ho (Nat.zero_le _) hq hcan
          have next : ∀ (v v' : Value) (ψ' : Map) (w' : World), (∀ d, o.dst = some d → e.get d = some v) → ψ.le ψ' → Rel P W K J ψ' h w' → VR ψ' v v' → wpAny P .any ops Q c (listed.setIfInBounds i true) (a.put o.dst v') w' := by
            intro v v' ψ' w' h1 h2 h3 h4
            exact ihc _ _ _ (ninv_next ok hd inv ho hun hafter (fun _ h => h) hAi (fun _ h => .inl h) h1 (fun _ _ => rfl) m0 h2 m1 m2 h3 h4) hcnt
          -- what it answers
          have val : ∃ v, (∀ d, o.dst = some d → e.get d = some v) ∧ ((awanted ops o e = some false ∧ v = undef) ∨ (awanted ops o e = some true ∧ aexec P X o.op (aval K e) h = some (.val v, h))) := by
            cases hr : reads o.op with
            | false =>
              obtain ⟨v, h1, h2⟩ := N.vals i o ho hAi hq hr
              exact ⟨v, h1, h2.imp id fun h => ⟨h.1, h.2 _⟩⟩
            | true =>
              have hsi := List.all_eq_true.1 hseen i (List.mem_range.2 (lt_of_get ho))
              rw [ho] at hsi
              simp only [hAi, hq, hr, Bool.not_true, Bool.false_or, Bool.or_eq_true] at hsi
              rcases hsi with hsi | hsi
              · exfalso
                obtain ⟨m, hm, hm2⟩ := List.any_eq_true.1 hsi
                cases hop : ops[m]? with
                | none => rw [hop] at hm2; cases hm2
                | some p =>
                  rw [hop] at hm2
                  simp only [Bool.and_eq_true, Bool.not_eq_true'] at hm2
                  have hlm := inv.non m p hop hm2.1.2 hm2.1.1
                  have := anc_closed inv.closed (show isAnc ops m i = true from hm2.2) hlm
                  rw [hli] at this; cases this
              · split at hsi
                · cases hsi
                · rename_i d hdst
                  split at hsi
                  · rename_i v hw hv
                    exact ⟨v, fun d' hd' => by rw [hdst] at hd'; cases hd'; exact hv, .inl ⟨hw, veq_eq _ _ hsi⟩⟩
                  · rename_i v hw hv
                    refine ⟨v, fun d' hd' => by rw [hdst] at hd'; cases hd'; exact hv, .inr ⟨hw, ?_⟩⟩
                    split at hsi
                    · rename_i u g hx
                      have := (quiet_same hq hx).1
                      subst this
                      rw [hx, veq_eq _ _ hsi]
                    · cases hsi
                  · cases hsi
          obtain ⟨v, hv, hw | hw⟩ := val
          · obtain ⟨hw, rfl⟩ := hw
            rw [awanted_ok ER' (by rw [awanted_only]; exact hw)]
            simp only [Bool.false_eq_true, if_false]
            exact next undef undef ψ w hv ψ.le_refl mR VR.undef
          · obtain ⟨hw, hx⟩ := hw
            rw [awanted_ok ER' (by rw [awanted_only]; exact hw)]
            simp only [if_true]
            left
            have hst' : astep P K X call o.op (only e (o.looksAt ops)) h = some (v, h) := by
              unfold astep
              rw [aexec_congr (aval_only (K := K) (e := e) (ops := ops) (o := o)), hx]
            exact astep_wp hX hN hc (n := n) mR hE hst' fun ψ' w' v' k1 k2 k3 => next v v' ψ' w' hv k1 k2 k3
        | false =>
          have hAi : A.testBit i = false := by
            cases hA : A.testBit i with
            | false => rfl
            | true => rw [inv.non i o ho hq hA] at hli; cases hli
          simp only [hq, hAi, Bool.false_or] at hal
          have next : ∀ (v v' : Value) (ψ' : Map) (h1 : AHeap) (w' : World), mixB P K X call ops (Region.before ops) k f (A ||| 2 ^ i) (aput e o.dst v) h1 = true → ψ.le ψ' → Rel P W K J ψ' h1 w' → VR ψ' v v' → wpAny P .any ops Q c (listed.setIfInBounds i true) (a.put o.dst v') w' := by
            intro v v' ψ' h1 w' hb h2 h3 h4
            refine ihf _ _ _ hb (N.put ok ho hAi hcan v (fun hq' => by rw [hq] at hq'; cases hq')) c _ _ _ ?_ hcnt
            exact ninv_next ok hd inv ho hun hafter (fun j hj => by rw [bit_or, hj]; rfl) (by rw [bit_or]; simp) (fun j hj => by
              rw [bit_or] at hj
              simp only [Bool.or_eq_true, decide_eq_true_eq] at hj
              exact hj.imp id Eq.symm) (fun d hd => by rw [hd]; exact aput_eq v) (fun d hd => aput_ne v hd) m0 h2 m1 m2 h3 h4
          split at hal
          · cases hal
          · rename_i hw
            rw [awanted_ok ER' (by rw [awanted_only]; exact hw)]
            simp only [Bool.false_eq_true, if_false]
            exact next undef undef ψ h w hal ψ.le_refl mR VR.undef
          · rename_i hw
            rw [awanted_ok ER' (by rw [awanted_only]; exact hw)]
            simp only [if_true]
            left
            split at hal
            · rename_i v h1 hst
              have hst' : astep P K X call o.op (only e (o.looksAt ops)) h = some (v, h1) := by
                rw [← hst]
                unfold astep
                rw [aexec_congr (aval_only (K := K) (e := e) (ops := ops) (o := o))]
              exact astep_wp hX hN hc (n := n) mR hE hst' fun ψ' w' v' k1 k2 k3 => next v v' ψ' h1 w' hal k1 k2 k3
            · cases hal
    intro c listed a w inv hcount
    refine main c listed a w ?_ hcount
    obtain ⟨ψ, m0, mR, m1, m2⟩ := inv.mem
    refine ⟨inv.size, inv.closed, inv.defers, inv.tmps, fun i o ho hl => s1 i (inv.sub i o ho hl), fun i o ho hq hA => inv.non i o ho hq (by rw [← s3 i o ho hq]; exact hA), ψ, m0, mR, fun i o d v ho hl hod hv => ?_, m2⟩
    obtain ⟨u, hu⟩ := N0.has i o d ho (inv.sub i o ho hl) hod
    have := s4 i o d u ho (inv.sub i o ho hl) hod hu
    rw [hv] at this; cases this
    exact m1 i o d _ ho hl hod hu

theorem mix_region (hX : ExtOk P W K X) (hN : NamesOk P) (hc : CallGood P W K call) (hm : P.follows .mixedOrders = true) {n id : Nat} (hd : ∀ o ∈ ops.toList, dstOk n o = true) (hok : mixOk ops = true) {φ : Map} {k : PT Value → AHeap → Bool} {Q : Exit → Act → World → Prop}
    (hQ : ∀ e h a w, k e h = true → Post P W K J φ n .normal e h .normal a w → Q .normal a w) {e : PT Value} {h : AHeap} {a : Act} {w : World}
    (he : mixB P K X call ops (Region.before ops) k (ops.size + 1) 0 e h = true) (R : Rel P W K J φ h w) (E : ER φ n e a.tmps) (hdf : a.defers = []) : (Code.region id ops true).wp P Q a w := by
  have ok := mixOk_of hok
  have zero : ∀ j, (0 : Nat).testBit j = true → False := fun j h => by simp at h
  refine wp_region_any hm ?_
  refine mix_any hX hN hc hd ok hQ (ops.size + 1) 0 e h he ⟨fun j _ _ hj => (zero j hj).elim, fun d v hv => .inr hv, fun i _ _ _ hi => (zero i hi).elim, fun i _ _ hi => (zero i hi).elim⟩ ops.size _ a _ ?_ (by simp)
  have none : ∀ i, (Array.replicate ops.size false).getD i false = true → False := by
    intro i hl
    simp [Array.getElem?_replicate] at hl
    split at hl <;> simp at hl
  exact ⟨by simp, fun j _ _ hl => (none j hl).elim, hdf, E.size, fun i _ _ hl => (none i hl).elim, fun i _ _ _ hi => (zero i hi).elim, φ, φ.le_refl, R.drew, fun i _ _ _ _ hl => (none i hl).elim, fun d v hv _ => E.get d v hv⟩

/-! ### From a told state to one, whatever the order -/
def pickE (p : PT Value) : List Nat → E3 → E3
  | [], e => e
  | t :: r, e => match p.get t with
    | some v => if t < 512 then pickE p r (upd3 e t v) else pickE p r e
    | none => pickE p r e
theorem pickE_le {p : PT Value} : ∀ (l : List Nat) (e : E3), LeE (fun _ => true) e p → LeE (fun _ => true) (pickE p l e) p
  | [], e, h => h
  | t :: r, e, h => by
    unfold pickE
    split
    · rename_i v hv
      split
      · rename_i ht
        refine pickE_le r _ ⟨fun u x hx => ?_, fun u hu => by cases hu⟩
        rw [lkd_upd3 _ _ _ _ ht] at hx
        split at hx
        · rename_i hu; subst hu; cases hx; exact hv
        · exact h.1 u x hx
      · exact pickE_le r e h
    · exact pickE_le r e h
/-- From one told state by such a region to another, in each order; l: the slots that the second one, and its paths, name. -/
noncomputable def drawN (P : Program) (K N : Nat) (X : Ext) (call : ACall) (ops : Array Oper) (l : List Nat) (ps : List Path) (s s' : CS) : Bool :=
  mixOk ops && mixB P K X call ops (Region.before ops) (fun p h => subN K N s' (pathsN [] (pickE p l none3) h ps []) (pickE p l none3) h) (ops.size + 1) 0 (envC s) (heapC K s)
noncomputable abbrev drawB (P : Program) (K : Nat) := drawN P K K
theorem draw_ok (hX : ExtOk P W K X) (hN : NamesOk P) (hc : CallGood P W K call) (hm : P.follows .mixedOrders = true) {n id : Nat} (hd : codeOk n (.region id ops true) = true) {φ0 : Map} {Q : Exit → Act → World → Prop} {l : List Nat} {ps : List Path} {s s' : CS}
    (hb : drawN P K N X call ops l ps s s' = true) (hq : ∀ a w, St P W K N J φ0 n (envC s') (heapC K s') a w → Q .normal a w) : ∀ a w, St P W K N J φ0 n (envC s) (heapC K s) a w → (Code.region id ops true).wp P Q a w := by
  simp only [drawN, Bool.and_eq_true] at hb
  intro a w hst
  obtain ⟨⟨φ, hag, R, E⟩, hself, hdf⟩ := hst
  simp only [codeOk] at hd
  refine mix_region (J := J) hX hN hc hm (List.all_eq_true.1 hd) hb.1 (fun e h a' w' hk hp => ?_) hb.2 R E hdf
  obtain ⟨_, ⟨ψ, hag', R', E'⟩, _, hdf'⟩ := St.of_post hag hself hp
  obtain ⟨χ, k1, k2, k3⟩ := sub_okN R' E' (pickE_le l none3 ⟨fun t v h => ((none3_le (fun _ => true)).1 t v h |> fun h => by simp at h), fun t h => by cases h⟩) hk
  exact hq a' w' ⟨⟨χ, fun B hB => by rw [k1 B hB, hag' B hB], k2, k3⟩, hself, hdf'⟩
end
end Go.Ab
namespace Go.Ab
open Go.RowKit
set_option linter.unusedVariables false
set_option linter.unusedSectionVars false
set_option linter.unusedSimpArgs false

/-! ### Values under other names -/
def nuA (ν : Nat → Nat) (a : Addr) : Addr := ⟨ν a.block, a.off, a.spot⟩
mutual
noncomputable def mapV (ν : Nat → Nat) : Value → Value
  | .pointer (some a) => .pointer (some (nuA ν a))
  | .slice (some a) l c => .slice (some (nuA ν a)) l c
  | .map (some r) => .map (some (ν r))
  | .iface t v => .iface t (mapV ν v)
  | .agg ⟨l⟩ => .agg ⟨mapL ν l⟩
  | .tuple ⟨l⟩ => .tuple ⟨mapL ν l⟩
  | .func f ⟨p⟩ ⟨c⟩ => .func f ⟨mapL ν p⟩ ⟨mapL ν c⟩
  | v => v
noncomputable def mapL (ν : Nat → Nat) : List Value → List Value
  | [] => []
  | v :: l => mapV ν v :: mapL ν l
end
theorem mapL_get (ν : Nat → Nat) : ∀ (l : List Value) (i : Nat), (mapL ν l)[i]? = (l[i]?).map (mapV ν)
  | [], i => by simp [mapL]
  | v :: l, i => by
    cases i with
    | zero => simp [mapL]
    | succ i => simp only [mapL, List.getElem?_cons_succ]; exact mapL_get ν l i
theorem mapL_length (ν : Nat → Nat) : ∀ (l : List Value), (mapL ν l).length = l.length
  | [] => rfl
  | v :: l => by simp only [mapL, List.length_cons, mapL_length ν l]
section
variable [Sg]
theorem mapL_VRs {ν : Nat → Nat} {φ ψ : Map} : ∀ (l l' : List Value), VRs φ l l' → (∀ v ∈ l, ∀ v', VR φ v v' → VR ψ (mapV ν v) v') → VRs ψ (mapL ν l) l' := by
  intro l l' r
  induction r with
  | nil => intro _; exact .nil
  | cons h1 _ ih => intro hv; exact .cons (hv _ (List.mem_cons_self ..) _ h1) (ih fun v hm => hv v (List.mem_cons_of_mem _ hm))
theorem mapV_VR {ν : Nat → Nat} {φ ψ : Map} (hν : ∀ B x, φ B = some x → ψ (ν B) = some x) {v v' : Value} (r : VR φ v v') : VR ψ (mapV ν v) v' := by
  have arr : ∀ (c c' : Array Value), c.size = c'.size → (∀ (i : Nat) (h : i < c.size) (h' : i < c'.size), VR ψ (mapV ν c[i]) c'[i]) → VRs ψ (mapL ν c.toList) c'.toList := by
    intro c c' hs hg
    refine VRs.of_get _ _ (by rw [mapL_length]; simpa using hs) fun i u u' h1 h2 => ?_
    rw [mapL_get] at h1
    have hi : i < c.size := by
      rcases Nat.lt_or_ge i c.size with h | h
      · exact h
      · rw [List.getElem?_eq_none (by simpa using h)] at h1; cases h1
    have e1 : c.toList[i]? = some c[i] := by simp [hi]
    rw [e1] at h1; cases h1
    have hi' : i < c'.size := by omega
    have e2 : c'.toList[i]? = some c'[i] := by simp [hi']
    rw [e2] at h2; cases h2
    exact hg i hi hi'
  induction r with
  | @flat v h =>
    have : mapV ν v = v := by
      cases v with
      | pointer o => cases o with
        | none => rfl
        | some a => simp [noAddr] at h
      | slice o l c => cases o with
        | none => rfl
        | some a => simp [noAddr] at h
      | map o => cases o with
        | none => rfl
        | some a => simp [noAddr] at h
      | func f p c => simp [noAddr] at h
      | iface t v => simp [noAddr] at h
      | agg c => simp [noAddr] at h
      | tuple c => simp [noAddr] at h
      | _ => rfl
    rw [this]; exact .flat h
  | sym h => exact .sym h
  | @ptr a x h1 h2 => exact VR.ptr (a := nuA ν a) (hν _ _ h1) h2
  | @slice a x len cap cap' o h1 h2 h3 h4 h5 h6 => exact VR.slice (a := nuA ν a) (hν _ _ h1) h2 h3 h4 h5 h6
  | map h => exact .map (hν _ _ h)
  | @func fn p c p' c' h2 _ h4 _ ih1 ih2 =>
    have k1 := arr p p' h2 ih1
    have k2 := arr c c' h4 ih2
    have e : mapV ν (.func fn p c) = .func fn ⟨mapL ν p.toList⟩ ⟨mapL ν c.toList⟩ := rfl
    rw [e]
    refine .func (by simp [mapL_length, h2]) (fun i a b => ?_) (by simp [mapL_length, h4]) (fun i a b => ?_)
    · obtain ⟨u, g1, g2⟩ := k1.get i _ (List.getElem?_eq_getElem (by simpa using a))
      have e2 : p'.toList[i]? = some p'[i] := by simp [b]
      rw [e2] at g1; cases g1
      simpa using g2
    · obtain ⟨u, g1, g2⟩ := k2.get i _ (List.getElem?_eq_getElem (by simpa using a))
      have e2 : c'.toList[i]? = some c'[i] := by simp [b]
      rw [e2] at g1; cases g1
      simpa using g2
  | iface _ ih => exact .iface ih
  | @agg c c' h1 _ ih => exact VR.of_aggs (c := ⟨mapL ν c.toList⟩) (by simpa using arr c c' h1 ih)
  | @tuple c c' h1 _ ih => exact VR.of_tuples (c := ⟨mapL ν c.toList⟩) (by simpa using arr c c' h1 ih)
end
noncomputable def mapE (ν : Nat → Nat) (e : MapEntry) : MapEntry := ⟨mapV ν e.key, mapV ν e.val, e.born⟩
theorem mapE_ERs [Sg] {ν : Nat → Nat} {φ ψ : Map} (hν : ∀ B x, φ B = some x → ψ (ν B) = some x) {l l' : List MapEntry} (r : ERs φ l l') : ERs ψ (l.map (mapE ν)) l' := by
  induction r with
  | nil => exact .nil
  | cons h1 h2 h3 _ ih => exact .cons (mapV_VR hν h1) (mapV_VR hν h2) h3 ih
noncomputable def CO.ren (ν : Nat → Nat) : CO → CO
  | .cells l e => .cells (mapL ν l) e
  | .map es c => .map (es.map (mapE ν)) c
theorem CO.obj_live (o : CO) : o.obj.live = true := by cases o <;> rfl
def CO.short : CO → Bool
  | .cells l _ => Nat.blt l.length 1000000
  | .map _ _ => true

/-! ### The call, told -/
structure TS where
  s0 : CS
  args : List Value
  keep : Nat
  nm : List Value → AHeap → List Nat
  u : Value
  s1 : CS
def nuB (K N : Nat) (rl : List Nat) (δ B : Nat) : Nat := cond (Nat.blt B K) B (cond (Nat.blt B N) ((rl[B - K]?).getD 0) (B + δ))
theorem nuB_eq (K N : Nat) (rl : List Nat) (δ B : Nat) : nuB K N rl δ B = if B < K then B else if B < N then (rl[B - K]?).getD 0 else B + δ := by
  have blt : ∀ a b : Nat, Nat.blt a b = decide (a < b) := fun a b => by
    rw [Bool.eq_iff_iff]; simp only [Nat.blt, decide_eq_true_eq]
    exact ⟨fun h => Nat.le_of_ble_eq_true h, fun h => Nat.ble_eq_true_of_le h⟩
  unfold nuB
  rw [blt, blt]
  by_cases h1 : B < K
  · simp [h1]
  · by_cases h2 : B < N <;> simp [h1, h2]
noncomputable def layS (ν : Nat → Nat) : Nat → List CO → PT AObj → PT AObj
  | _, [], m => m
  | i, o :: r, m => layS ν (i + 1) r (m.set (ν i) (o.ren ν).obj)
def killL : List Nat → PT AObj → PT AObj
  | [], m => m
  | B :: r, m => killL r (m.set B .dead)
theorem layS_get {ν : Nat → Nat} : ∀ (l : List CO) (i : Nat) (m : PT AObj) (D : Nat) (o : AObj), (layS ν i l m).get D = some o → (∃ j co, l[j]? = some co ∧ D = ν (i + j) ∧ o = (co.ren ν).obj) ∨ m.get D = some o
  | [], i, m, D, o, h => .inr h
  | c :: r, i, m, D, o, h => by
    rcases layS_get r (i + 1) _ D o h with ⟨j, co, h1, h2, h3⟩ | h1
    · exact .inl ⟨j + 1, co, by simpa using h1, by rw [h2]; congr 1; omega, h3⟩
    · rw [PT.get_set] at h1
      split at h1
      · rename_i e; cases h1; exact .inl ⟨0, c, by simp, by rw [← e]; rfl, rfl⟩
      · exact .inr h1
theorem killL_get : ∀ (l : List Nat) (m : PT AObj) (D : Nat) (o : AObj), (killL l m).get D = some o → (o = .dead ∧ D ∈ l) ∨ (D ∉ l ∧ m.get D = some o)
  | [], m, D, o, h => .inr ⟨by simp, h⟩
  | B :: r, m, D, o, h => by
    rcases killL_get r _ D o h with ⟨h1, h2⟩ | ⟨h1, h2⟩
    · exact .inl ⟨h1, List.mem_cons_of_mem _ h2⟩
    · rw [PT.get_set] at h2
      split at h2
      · rename_i e; cases h2; exact .inl ⟨rfl, by rw [e]; exact List.mem_cons_self ..⟩
      · rename_i e
        refine .inr ⟨fun hm => ?_, h2⟩
        rcases List.mem_cons.1 hm with h3 | h3
        · exact e h3.symm
        · exact h1 h3
section
variable [Sg] {P : Program} {W : World} {K N : Nat} {J : Nat → Option Obj} {φ : Map} {h : AHeap} {w : World}
noncomputable def useS (K : Nat) (t : TS) (args : List Value) (h : AHeap) : Option (Value × AHeap) :=
  let rl := t.nm args h
  let N := K + t.keep
  let δ := h.next - K
  cond (Nat.beq h.ro K && (distinctB rl && (obsB K (renOf K rl) h t.s0.obs rl && (renL K (renOf K rl) t.args args && (((List.range K).all fun B => (fget h.m B).isNone) && (Nat.ble t.keep rl.length && t.s1.obs.all CO.short))))))
    (some (mapV (nuB K N rl δ) t.u, ⟨layS (nuB K N rl δ) K t.s1.obs (killL rl h.m), h.next + t.s1.obs.length, h.ro⟩)) none
theorem Rel.junked (R : Rel P W K J φ h w) {J' : Nat → Option Obj} (hj : ∀ b O, J' b = some O → w.heap[b]? = some O ∧ ∀ B x, φ B = some x → h.ro ≤ B → x.b ≠ b) : Rel P W K J' φ h w :=
  ⟨R.below, R.obj, R.dom, R.inj, R.old, R.self, R.ro, hj, R.es⟩
open Classical in
theorem useS_ok {fid : FuncId} {t : TS} (ht : FnToldS P K (K + t.keep) fid t.s0 t.args t.u t.s1) {args args' : List Value} {r : Value} {h' : AHeap} (he : useS K t args h = some (r, h')) (R : Rel P W K J φ h w) (ha : VRs φ args args') :
    Calls P fid args'.toArray w fun en w' => ∃ ψ v, φ.le ψ ∧ en = .returned v ∧ VR ψ r v ∧ Rel P W K J ψ h' w' := by
  unfold useS at he
  simp only at he
  generalize hrl : t.nm args h = rl at he
  generalize hN : K + t.keep = N at he ht
  generalize hδ : h.next - K = δ at he
  cases hc : (Nat.beq h.ro K && (distinctB rl && (obsB K (renOf K rl) h t.s0.obs rl && (renL K (renOf K rl) t.args args && (((List.range K).all fun B => (fget h.m B).isNone) && (Nat.ble t.keep rl.length && t.s1.obs.all CO.short)))))) with
  | false => rw [hc] at he; cases he
  | true =>
  rw [hc] at he
  simp only [cond_true, Option.some.injEq, Prod.mk.injEq] at he
  obtain ⟨rfl, rfl⟩ := he
  simp only [Bool.and_eq_true] at hc
  obtain ⟨c1, c2, c3, c4, c5, c6, c7⟩ := hc
  have hro : h.ro = K := Nat.eq_of_beq_eq_true c1
  have hkeep : t.keep ≤ rl.length := Nat.le_of_ble_eq_true c6
  have hnext : K ≤ h.next := hro ▸ R.ro
  have hnK : h.next = K + δ := by omega
  obtain ⟨hlen, hobs⟩ := obsB_spec _ _ c3
  have hge := obsB_ge _ _ c3
  -- the told memory
  have hs : subB K ⟨[], t.s0.obs⟩ rl none3 h = true := by simp only [subB, c1, c2, c3, envB, Bool.and_self]
  obtain ⟨φ0, rfl, R0, _⟩ := sub_ok' (n := 0) (p := PT.nil) (G := fun _ => true) (tmps := #[]) R ⟨rfl, fun i v h => by simp at h⟩ (none3_le _) hs
  have ha0 : VRs (renM K (renOf K rl) φ) t.args args' := renL_ok _ _ _ c4 ha
  have inDom : ∀ B x, renM K (renOf K rl) φ B = some x → ∃ D, φ D = some x ∧ (D = B ∧ B < K ∨ K ≤ B ∧ rl[B - K]? = some D) := by
    intro B x e
    unfold renM at e
    split at e
    · exact ⟨B, e, .inl ⟨rfl, ‹_›⟩⟩
    · rename_i hB
      split at e
      · rename_i D hD
        unfold renOf at hD
        rw [if_neg hB] at hD
        exact ⟨D, e, .inr ⟨by omega, hD⟩⟩
      · cases e
  -- what is beside it stays
  let cnd : Nat → Prop := fun b => ∃ B o x, h.m.get B = some o ∧ o.live = true ∧ B ∉ rl ∧ φ B = some x ∧ x.b = b
  let J' : Nat → Option Obj := fun b => if cnd b then w.heap[b]? else J b
  have glob : ∀ B o, h.m.get B = some o → K ≤ B := by
    intro B o hB
    rcases Nat.lt_or_ge B K with hlt | hge
    · have := List.all_eq_true.1 c5 B (List.mem_range.2 hlt)
      rw [fget_eq, hB] at this; cases this
    · exact hge
  have rlget : ∀ D, D ∈ rl → ∃ o, h.m.get D = some o ∧ o.live = true := by
    intro D hD
    obtain ⟨i, hi, hDi⟩ := List.mem_iff_getElem.1 hD
    have hi2 : i < t.s0.obs.length := by omega
    obtain ⟨D', g1, g2, g3⟩ := hobs i _ (List.getElem?_eq_getElem hi2)
    rw [List.getElem?_eq_getElem hi, hDi] at g1
    cases g1
    cases hm : h.m.get D with
    | none => rw [hm] at g3; cases hco : t.s0.obs[i] <;> rw [hco] at g3 <;> simp [coB] at g3
    | some o =>
      refine ⟨o, rfl, ?_⟩
      rw [hm] at g3
      cases o with
      | dead => cases hco : t.s0.obs[i] <;> rw [hco] at g3 <;> simp [coB] at g3
      | _ => rfl
  have R0' : Rel P W K J' (renM K (renOf K rl) φ) (heapC K t.s0) w := by
    refine (R0.congr (fun B => rfl) rfl rfl : Rel P W K J _ (heapC K t.s0) w).junked fun b O hb => ?_
    by_cases hcn : cnd b
    · have hb : (if cnd b then w.heap[b]? else J b) = some O := hb
      rw [if_pos hcn] at hb
      refine ⟨hb, fun B x e hroB hxb => ?_⟩
      have hroB : K ≤ B := hroB
      obtain ⟨B0, o0, x0, k1, k2, k3, k4, k5⟩ := hcn
      obtain ⟨D, hD, hDB⟩ := inDom B x e
      rcases hDB with ⟨rfl, hBK⟩ | ⟨hBK, hmem⟩
      · omega
      · have hmem := List.mem_of_getElem? hmem
        obtain ⟨o, k6, k7⟩ := rlget D hmem
        have := R.inj B0 D x0 x o0 o k1 k6 k2 k7 k4 hD (by rw [k5, hxb])
        subst this
        exact k3 hmem
    · have hb : (if cnd b then w.heap[b]? else J b) = some O := hb
      rw [if_neg hcn] at hb
      obtain ⟨j1, j2⟩ := R.junk b O hb
      refine ⟨j1, fun B x e hroB => ?_⟩
      have hroB : K ≤ B := hroB
      obtain ⟨D, hD, hDB⟩ := inDom B x e
      rcases hDB with ⟨rfl, hBK⟩ | ⟨hBK, hmem⟩
      · omega
      · exact j2 D x hD (by rw [hro]; exact hge D (List.mem_of_getElem? hmem))
  refine (ht W J' _ w args' R0' ha0).mono fun en w' hh => ?_
  obtain ⟨ψ1, v, hag, rfl, hv, R1⟩ := hh
  let Φ : Map := fun B => if B < h.next then φ B else ψ1 (B - δ)
  have hle : φ.le Φ := fun B x e => by
    have := R.dom B x e
    show (if B < h.next then φ B else ψ1 (B - δ)) = some x
    rw [if_pos this]; exact e
  have invΦ : ∀ D x, Φ D = some x → (D < h.next ∧ φ D = some x) ∨ (h.next ≤ D ∧ K ≤ D - δ ∧ δ ≤ D ∧ ψ1 (D - δ) = some x) := by
    intro D x e
    have e : (if D < h.next then φ D else ψ1 (D - δ)) = some x := e
    split at e
    · exact .inl ⟨‹_›, e⟩
    · exact .inr ⟨by omega, by omega, by omega, e⟩
  have kept : ∀ B, K ≤ B → B < N → ∃ D, rl[B - K]? = some D ∧ ψ1 B = φ D := by
    intro B h1 h2
    have hlt : B - K < rl.length := by omega
    refine ⟨rl[B - K], List.getElem?_eq_getElem hlt, ?_⟩
    rw [hag B h2]
    unfold renM renOf
    rw [if_neg (by omega), if_neg (by omega), List.getElem?_eq_getElem hlt]
  have hν : ∀ B x, ψ1 B = some x → Φ (nuB K N rl δ B) = some x := by
    intro B x e
    rw [nuB_eq]
    by_cases h1 : B < K
    · rw [if_pos h1]
      have : renM K (renOf K rl) φ B = φ B := by unfold renM; rw [if_pos h1]
      rw [hag B (by omega), this] at e
      exact hle _ _ e
    · rw [if_neg h1]
      by_cases h2 : B < N
      · rw [if_pos h2]
        obtain ⟨D, g1, g2⟩ := kept B (by omega) h2
        rw [g1, Option.getD_some]
        rw [g2] at e
        exact hle _ _ e
      · rw [if_neg h2]
        show (if B + δ < h.next then φ (B + δ) else ψ1 (B + δ - δ)) = some x
        rw [if_neg (by omega), Nat.add_sub_cancel]; exact e
  have new1 : ∀ (j : Nat) (co : CO), t.s1.obs[j]? = some co → (heapC K t.s1).m.get (K + j) = some co.obj := by
    intro j co hj
    have hlt := (List.getElem?_eq_some_iff.1 hj).1
    simp only [heapC]
    rw [PT.get_put, if_pos ⟨by omega, by simp only [List.length_map]; omega⟩, List.getElem?_map, show K + j - K = j by omega, hj]
    rfl
  -- what a place of the new memory holds
  have getc : ∀ D o, (layS (nuB K N rl δ) K t.s1.obs (killL rl h.m)).get D = some o → (∃ j co x, t.s1.obs[j]? = some co ∧ D = nuB K N rl δ (K + j) ∧ o = (co.ren (nuB K N rl δ)).obj ∧ ψ1 (K + j) = some x ∧ Φ D = some x ∧ ObjR ψ1 x w' true co.obj) ∨
      (o = .dead ∧ ∃ x, Φ D = some x) ∨ (D ∉ rl ∧ K ≤ D ∧ h.m.get D = some o ∧ ∃ x, φ D = some x ∧ Φ D = some x) := by
    intro D o hD
    rcases layS_get _ _ _ _ _ hD with ⟨j, co, h1, h2, h3⟩ | h1
    · obtain ⟨x, hx, hobj⟩ := R1.obj _ _ (new1 j co h1)
      have d1 : decide ((heapC K t.s1).ro ≤ K + j) = true := decide_eq_true (Nat.le_add_right _ _)
      rw [d1] at hobj
      exact .inl ⟨j, co, x, h1, h2, h3, hx, by rw [h2]; exact hν _ _ hx, hobj⟩
    · rcases killL_get _ _ _ _ h1 with ⟨rfl, h2⟩ | ⟨h2, h3⟩
      · obtain ⟨o', k1, _⟩ := rlget D h2
        obtain ⟨x, hx, _⟩ := R.obj D o' k1
        exact .inr (.inl ⟨rfl, x, hle _ _ hx⟩)
      · obtain ⟨x, hx, _⟩ := R.obj D o h3
        exact .inr (.inr ⟨h2, glob D o h3, h3, x, hx, hle _ _ hx⟩)
  have ownD : ∀ j, K ≤ nuB K N rl δ (K + j) := by
    intro j
    rw [nuB_eq, if_neg (by omega)]
    split
    · rename_i h2
      obtain ⟨D, g1, _⟩ := kept (K + j) (by omega) h2
      rw [g1, Option.getD_some]
      exact hge D (List.mem_of_getElem? g1)
    · omega
  have objren : ∀ (co : CO) (x : At), co.short = true → ObjR ψ1 x w' true co.obj → ObjR Φ x w' true (co.ren (nuB K N rl δ)).obj := by
    intro co x hsh ho
    cases co with
    | map es c =>
      obtain ⟨es', k1, k2⟩ := ho
      exact ⟨es', k1, mapE_ERs hν k2⟩
    | cells l e =>
      obtain ⟨C, f, E, k1, k0, k2, k3, k4⟩ := ho
      have hsh : l.length < 1000000 := by have h : Nat.blt l.length 1000000 = true := hsh; simp only [Nat.blt] at h; exact Nat.le_of_ble_eq_true h
      refine ⟨C, f, E, k1, k0, k2, by rw [mapL_length]; exact k3, fun i v hi hv => ?_⟩
      rw [mapL_length] at hi
      rw [rowT_get 20 _ i (by omega), mapL_get] at hv
      have : ∃ u, l[i]? = some u := ⟨l[i], List.getElem?_eq_getElem hi⟩
      obtain ⟨u, hu⟩ := this
      rw [hu] at hv
      cases hv
      obtain ⟨v', g1, g2⟩ := k4 i u hi (by rw [rowT_get 20 _ i (by omega)]; exact hu)
      exact ⟨v', g1, mapV_VR hν g2⟩
  have hle2 : K ≤ h.next + t.s1.obs.length := by omega
  refine ⟨Φ, v, hle, rfl, mapV_VR hν hv, R1.below, ?_, ?_, ?_, ?_, ?_, ?_, ?_, ?_⟩
  · intro D o hD
    rcases getc D o hD with ⟨j, co, x, h1, h2, h3, h4, h5, h6⟩ | ⟨rfl, x, hx⟩ | ⟨h1, h2, h3, x, hx, hx'⟩
    · refine ⟨x, h5, ?_⟩
      have d1 : decide (h.ro ≤ D) = true := decide_eq_true (by rw [hro, h2]; exact ownD j)
      show ObjR Φ x w' (decide (h.ro ≤ D)) o
      rw [d1, h3]
      exact objren co x (List.all_eq_true.1 c7 co (List.mem_of_getElem? h1)) h6
    · exact ⟨x, hx, trivial⟩
    · obtain ⟨y, hy, ho⟩ := R.obj D o h3
      rw [hx] at hy; cases hy
      refine ⟨x, hx', (ho.later fun hl => ?_).mono hle⟩
      have hlt := R.live_lt h3 hl hx
      obtain ⟨O, hO⟩ : ∃ O, w.heap[x.b]? = some O := ⟨_, Array.getElem?_eq_getElem hlt⟩
      have hc : cnd x.b := ⟨D, o, x, h3, hl, h1, hx, rfl⟩
      have := (R1.junk x.b O (by show (if cnd x.b then w.heap[x.b]? else J x.b) = some O; rw [if_pos hc]; exact hO)).1
      rw [this, hO]
  · intro D x e
    show D < h.next + t.s1.obs.length
    rcases invΦ D x e with ⟨h1, _⟩ | ⟨h1, _, _, h4⟩
    · omega
    · have := R1.dom _ _ h4
      have : D - δ < K + t.s1.obs.length := this
      omega
  · intro D E x y o p hD hE l1 l2 e1 e2 e3
    have beside : ∀ (D : Nat) (x y : At) (o : AObj), h.m.get D = some o → o.live = true → D ∉ rl → φ D = some x → (∃ j, ψ1 (K + j) = some y) → x.b = y.b → False := by
      intro D x y o k1 k2 k3 k4 ⟨j, k5⟩ k6
      have hlt := R.live_lt k1 k2 k4
      obtain ⟨O, hO⟩ : ∃ O, w.heap[x.b]? = some O := ⟨_, Array.getElem?_eq_getElem hlt⟩
      have hc : cnd x.b := ⟨D, o, x, k1, k2, k3, k4, rfl⟩
      exact (R1.junk x.b O (by show (if cnd x.b then w.heap[x.b]? else J x.b) = some O; rw [if_pos hc]; exact hO)).2 _ _ k5 (Nat.le_add_right _ _) k6.symm
    rcases getc D o hD with ⟨j, co, x', h1, h2, h3, h4, h5, h6⟩ | ⟨rfl, _⟩ | ⟨h1, h2, h3, x', hx, hx'⟩
    · rw [e1] at h5; cases h5
      rcases getc E p hE with ⟨j2, co2, y', i1, i2, i3, i4, i5, i6⟩ | ⟨rfl, _⟩ | ⟨i1, i2, i3, y', hy, hy'⟩
      · rw [e2] at i5; cases i5
        have := R1.inj _ _ x y _ _ (new1 j co h1) (new1 j2 co2 i1) co.obj_live co2.obj_live h4 i4 e3
        rw [h2, i2, this]
      · cases l2
      · rw [e2] at hy'; cases hy'
        exact (beside E y x p i3 l2 i1 hy ⟨j, h4⟩ e3.symm).elim
    · cases l1
    · rw [e1] at hx'; cases hx'
      rcases getc E p hE with ⟨j2, co2, y', i1, i2, i3, i4, i5, i6⟩ | ⟨rfl, _⟩ | ⟨i1, i2, i3, y', hy, hy'⟩
      · rw [e2] at i5; cases i5
        exact (beside D x y o h3 l1 h1 hx ⟨j2, i4⟩ e3).elim
      · cases l2
      · rw [e2] at hy'; cases hy'
        exact R.inj D E x y o p h3 i3 l1 l2 hx hy e3
  · intro D x e hroD
    rcases invΦ D x e with ⟨_, h1⟩ | ⟨_, h2, _, h4⟩
    · exact R.old D x h1 hroD
    · exact R1.old _ x h4 h2
  · intro B hB
    obtain ⟨cs, es, e⟩ := R.self B hB
    exact ⟨cs, es, hle _ _ e⟩
  · show h.ro ≤ h.next + t.s1.obs.length
    omega
  · intro b O hb
    obtain ⟨j1, j2⟩ := R.junk b O hb
    have hnc : ¬ cnd b := fun ⟨B, o, x, k1, k2, k3, k4, k5⟩ => j2 B x k4 (by rw [hro]; exact glob B o k1) k5
    obtain ⟨i1, i2⟩ := R1.junk b O (by show (if cnd b then w.heap[b]? else J b) = some O; rw [if_neg hnc]; exact hb)
    refine ⟨i1, fun D x e hroD => ?_⟩
    rcases invΦ D x e with ⟨_, h1⟩ | ⟨_, h2, _, h4⟩
    · exact j2 D x h1 hroD
    · exact i2 _ x h4 h2
  · intro D x c n E e hg hD
    rcases getc D _ hD with ⟨j, co, x', h1, h2, h3, h4, h5, h6⟩ | ⟨h1, _⟩ | ⟨h1, h2, h3, x', hx, hx'⟩
    · rw [e] at h5; cases h5
      cases co with
      | map es cl => cases h3
      | cells l e' =>
        cases h3
        exact R1.es _ x _ _ _ h4 hg (new1 j _ h1)
    · cases h1
    · rw [e] at hx'; cases hx'
      exact R.es D x c n E hx hg h3
/-- Told calls at told memories. -/
noncomputable def toldS (K : Nat) (ts : List (FuncId × TS)) : Orc := fun f => match ts.lookup f with
  | some t => some fun args h => useS K t args h
  | none => none
theorem toldS_ok {ts : List (FuncId × TS)} (ht : ∀ f t, ts.lookup f = some t → FnToldS P K (K + t.keep) f t.s0 t.args t.u t.s1) : OrcOk P W K (toldS K ts) := by
  intro f g hg args h r h' he J φ w args' R ha
  unfold toldS at hg
  split at hg
  case h_2 => cases hg
  rename_i t hl
  cases hg
  exact useS_ok (ht f t hl) he R ha
/-- One oracle, then another. -/
def orc2 (O1 O2 : Orc) : Orc := fun f => match O1 f with
  | some g => some g
  | none => O2 f
theorem orc2_ok {O1 O2 : Orc} (h1 : OrcOk P W K O1) (h2 : OrcOk P W K O2) : OrcOk P W K (orc2 O1 O2) := by
  intro f g hg
  unfold orc2 at hg
  split at hg
  · rename_i hg'; cases hg; exact h1 f _ hg'
  · exact h2 f g hg
end
end Go.Ab
namespace Go.Ab
open Go.RowKit
set_option linter.unusedVariables false
set_option linter.unusedSectionVars false
set_option linter.unusedSimpArgs false
section
variable [Sg] {P : Program} {W : World} {K N : Nat} {J : Nat → Option Obj} {φ : Map} {h : AHeap} {w : World}
/-- Told calls at told memories; where none fits, the call is done. -/
noncomputable def toldSF (K : Nat) (ts : List (FuncId × TS)) (fb : ACall) : Orc := fun f => match ts.lookup f with
  | some t => some fun args h => match useS K t args h with
    | some r => some r
    | none => fb f args h
  | none => none
theorem toldSF_ok {ts : List (FuncId × TS)} {fb : ACall} (ht : ∀ f t, ts.lookup f = some t → FnToldS P K (K + t.keep) f t.s0 t.args t.u t.s1) (hf : CallGood P W K fb) : OrcOk P W K (toldSF K ts fb) := by
  intro f g hg args h r h' he J φ w args' R ha
  unfold toldSF at hg
  split at hg
  case h_2 => cases hg
  rename_i t hl
  cases hg
  simp only at he
  split at he
  · rename_i r0 hr
    cases he
    exact useS_ok (ht f t hl) hr R ha
  · exact hf f args h r h' he J φ w args' R ha

/-! ### Calls that only read -/
/-- Of a row of cells these. -/
structure PO where
  l : List (Nat × Value)
  n : Nat
  e : TypeId
def PO.obj (o : PO) : AObj := .cells (o.l.foldl (fun t p => t.set p.1 p.2) .nil) o.n o.e
def heapP (K : Nat) (obs : List PO) : AHeap := ⟨PT.nil.put K (obs.map PO.obj), K + obs.length, K + obs.length⟩
noncomputable def cellsB (K : Nat) (ρ : Nat → Option Nat) (c : PT Value) : List (Nat × Value) → Bool
  | [] => true
  | (i, u) :: r => (match fget c i with
    | some v => renB K ρ u v
    | none => false) && cellsB K ρ c r
noncomputable def poB (K : Nat) (ρ : Nat → Option Nat) (o : PO) : Option AObj → Bool
  | some (.cells c n e) => Nat.beq o.e e && (Nat.beq o.n n && cellsB K ρ c o.l)
  | _ => false
noncomputable def posB (K : Nat) (ρ : Nat → Option Nat) (h : AHeap) : List PO → List Nat → Bool
  | [], [] => true
  | o :: l, D :: m => Nat.ble K D && (poB K ρ o (fget h.m D) && posB K ρ h l m)
  | _, _ => false
theorem cellsB_spec {K : Nat} {ρ : Nat → Option Nat} {c : PT Value} : ∀ (l : List (Nat × Value)), cellsB K ρ c l = true → ∀ i u, (i, u) ∈ l → ∃ v, c.get i = some v ∧ renB K ρ u v = true
  | [], _, i, u, h => by simp at h
  | (j, x) :: r, hb, i, u, h => by
    simp only [cellsB, Bool.and_eq_true] at hb
    rcases List.mem_cons.1 h with h1 | h1
    · obtain ⟨e1, e2⟩ := Prod.mk.inj h1
      subst e1; subst e2
      have h2 := hb.1
      rw [fget_eq] at h2
      cases hc : c.get i with
      | none => rw [hc] at h2; cases h2
      | some v => rw [hc] at h2; exact ⟨v, rfl, h2⟩
    · exact cellsB_spec r hb.2 i u h1
theorem posB_spec {K : Nat} {ρ : Nat → Option Nat} {h : AHeap} : ∀ (l : List PO) (m : List Nat), posB K ρ h l m = true → l.length = m.length ∧ ∀ (i : Nat) (o : PO), l[i]? = some o → ∃ D, m[i]? = some D ∧ K ≤ D ∧ poB K ρ o (h.m.get D) = true
  | [], [], _ => ⟨rfl, fun i o h => by simp at h⟩
  | [], _ :: _, h => by simp [posB] at h
  | _ :: _, [], h => by simp [posB] at h
  | o :: l, D :: m, hh => by
    simp only [posB, Bool.and_eq_true, fget_eq] at hh
    obtain ⟨h1, h2⟩ := posB_spec l m hh.2.2
    refine ⟨by simp [h1], fun i o' hi => ?_⟩
    cases i with
    | zero => simp at hi; subst hi; exact ⟨D, rfl, Nat.le_of_ble_eq_true hh.1, hh.2.1⟩
    | succ i => obtain ⟨D', k⟩ := h2 i o' (by simpa using hi); exact ⟨D', by simpa using k.1, k.2⟩
/-- Of a memory this much, all of it such as may not be written. -/
theorem Rel.part (R : Rel P W K J φ h w) {obs : List PO} {rl : List Nat} (hd : distinctB rl = true) (hb : posB K (renOf K rl) h obs rl = true) : Rel P w K (fun _ => none) (renM K (renOf K rl) φ) (heapP K obs) w := by
  obtain ⟨hlen, hobs⟩ := posB_spec _ _ hb
  have hge : ∀ D ∈ rl, K ≤ D := fun D hD => by
    obtain ⟨i, hi, hDi⟩ := List.mem_iff_getElem.1 hD
    have hi2 : i < obs.length := by omega
    obtain ⟨D', g1, g2, _⟩ := hobs i _ (List.getElem?_eq_getElem hi2)
    rw [List.getElem?_eq_getElem hi, hDi] at g1
    cases g1; exact g2
  have inv : ∀ B x, renM K (renOf K rl) φ B = some x → (B < K ∧ φ B = some x) ∨ (K ≤ B ∧ ∃ D, rl[B - K]? = some D ∧ φ D = some x) := by
    intro B x e
    unfold renM at e
    split at e
    · rename_i hB; exact .inl ⟨hB, e⟩
    · rename_i hB
      split at e
      · rename_i D hD
        unfold renOf at hD
        rw [if_neg hB] at hD
        exact .inr ⟨by omega, D, hD, e⟩
      · cases e
  have fwd : ∀ B D, K ≤ B → rl[B - K]? = some D → renM K (renOf K rl) φ B = φ D := by
    intro B D hB hD
    unfold renM renOf
    rw [if_neg (by omega), if_neg (by omega), hD]
  -- a told block, and the one that it is
  have own : ∀ B o, (heapP K obs).m.get B = some o → ∃ co D c, K ≤ B ∧ obs[B - K]? = some co ∧ o = co.obj ∧ rl[B - K]? = some D ∧ K ≤ D ∧ h.m.get D = some (.cells c co.n co.e) ∧ cellsB K (renOf K rl) c co.l = true := by
    intro B o hB
    simp only [heapP] at hB
    rw [PT.get_put] at hB
    split at hB
    · rename_i hr
      rw [List.getElem?_map] at hB
      cases hc : obs[B - K]? with
      | none => rw [hc] at hB; cases hB
      | some co =>
        rw [hc] at hB
        simp only [Option.map_some, Option.some.injEq] at hB
        obtain ⟨D, g1, g2, g3⟩ := hobs _ _ hc
        cases hm : h.m.get D with
        | none => rw [hm] at g3; simp [poB] at g3
        | some ob =>
          rw [hm] at g3
          cases ob with
          | cells c n' f =>
            simp only [poB, Bool.and_eq_true] at g3
            have e1 := Nat.eq_of_beq_eq_true g3.1
            have e2 := Nat.eq_of_beq_eq_true g3.2.1
            exact ⟨co, D, c, hr.1, rfl, hB.symm, g1, g2, by rw [e1, e2]; exact hm, g3.2.2⟩
          | map es k => simp [poB] at g3
          | dead => simp [poB] at g3
    · simp at hB
  have dom : ∀ B x, renM K (renOf K rl) φ B = some x → B < K + obs.length := by
    intro B x e
    rcases inv B x e with ⟨h1, _⟩ | ⟨_, D, hD, _⟩
    · omega
    · have := (List.getElem?_eq_some_iff.1 hD).1
      omega
  refine ⟨Below.refl _ _, fun B o e => ?_, dom, ?_, fun B x e hB => ?_, fun B hB => ?_, Nat.le_refl _, fun b O e => (nomatch e), ?_⟩
  · obtain ⟨co, D, c, g1, g2, rfl, g3, g4, g5, g6⟩ := own B o e
    obtain ⟨x, hx, ho⟩ := R.obj D _ g5
    refine ⟨x, by rw [fwd B D g1 g3]; exact hx, ?_⟩
    have hl : B < K + obs.length := dom B x (by rw [fwd B D g1 g3]; exact hx)
    have d : decide ((heapP K obs).ro ≤ B) = false := by
      rw [decide_eq_false_iff_not]
      show ¬ (K + obs.length ≤ B)
      omega
    rw [d]
    obtain ⟨C, f, E, k1, _, k2, k3, k4⟩ := ho
    refine ⟨C, f, E, k1, fun h => (by cases h), k2, k3, fun i u hi hu => ?_⟩
    rcases env_fold _ _ i u hu with h5 | h5
    · obtain ⟨v, g7, g8⟩ := cellsB_spec _ g6 i u h5
      obtain ⟨v', g9, g10⟩ := k4 i v hi g7
      exact ⟨v', g9, renB_ok _ _ _ g8 g10⟩
    · simp at h5
  · intro B C x y o q hB hC l1 l2 e1 e2 e3
    obtain ⟨co, D, c, g1, g2, rfl, g3, g4, g5, g6⟩ := own B o hB
    obtain ⟨co2, D2, c2, i1, i2, rfl, i3, i4, i5, i6⟩ := own C q hC
    rw [fwd B D g1 g3] at e1
    rw [fwd C D2 i1 i3] at e2
    have := R.inj D D2 x y _ _ g5 i5 rfl rfl e1 e2 e3
    subst this
    have := distinctB_spec rl hd _ _ _ g3 i3
    omega
  · have := dom B x e
    have hB : K + obs.length ≤ B := hB
    omega
  · obtain ⟨cs, es, e⟩ := R.self B hB
    exact ⟨cs, es, by unfold renM; rw [if_pos hB]; exact e⟩
  · intro B x c n E e1 e2 e3
    obtain ⟨co, D, c', g1, g2, ho, g3, g4, g5, g6⟩ := own B _ e3
    rw [fwd B D g1 g3] at e1
    have h1 : n = co.n ∧ E = co.e := by simp only [PO.obj, AObj.cells.injEq] at ho; exact ho.2
    rw [h1.2]
    exact R.es D x c' co.n co.e e1 e2 g5
/-- What a call that only reads tells, wherever it finds this. -/
def FnToldR (P : Program) (K : Nat) (f : FuncId) (obs : List PO) (args : List Value) (u : Value) : Prop := ∀ (w : World) (φ0 : Map) (args' : List Value), Rel P w K (fun _ => none) φ0 (heapP K obs) w → VRs φ0 args args' →
    Calls P f args'.toArray w fun en w' => ∃ r', en = .returned r' ∧ Sy Sg.σ u r' ∧ Below w.heap.size w w'
theorem toldR_of {call : ACall} (hc : ∀ W, CallGood P W K call) {f : FuncId} {obs : List PO} {args : List Value} {u : Value} (hu : isSy u = true) (he : gives (call f args (heapP K obs)) u = true) : FnToldR P K f obs args u := by
  intro w φ0 args' R ha
  unfold gives at he
  split at he
  · rename_i v h' hcall
    have := veq_eq _ _ he
    subst this
    refine (hc w f args _ _ _ hcall _ _ _ _ R ha).mono fun en w' hh => ?_
    obtain ⟨ψ, r', _, h2, h3, h4⟩ := hh
    exact ⟨r', h2, h3.sy (isSy_or hu), h4.below⟩
  · cases he
structure TR where
  obs : List PO
  args : List Value
  nm : List Value → AHeap → List Nat
  u : Value
noncomputable def useR (K : Nat) (t : TR) (args : List Value) (h : AHeap) : Option (Value × AHeap) :=
  let rl := t.nm args h
  cond (distinctB rl && (posB K (renOf K rl) h t.obs rl && renL K (renOf K rl) t.args args)) (some (t.u, h)) none
theorem useR_ok {f : FuncId} {t : TR} (ht : FnToldR P K f t.obs t.args t.u) {args args' : List Value} {r : Value} {h' : AHeap} (he : useR K t args h = some (r, h')) (R : Rel P W K J φ h w) (ha : VRs φ args args') :
    Calls P f args'.toArray w fun en w' => ∃ ψ v, φ.le ψ ∧ en = .returned v ∧ VR ψ r v ∧ Rel P W K J ψ h' w' := by
  unfold useR at he
  simp only at he
  cases hc : (distinctB (t.nm args h) && (posB K (renOf K (t.nm args h)) h t.obs (t.nm args h) && renL K (renOf K (t.nm args h)) t.args args)) with
  | false => rw [hc] at he; cases he
  | true =>
    rw [hc] at he
    simp only [cond_true, Option.some.injEq, Prod.mk.injEq] at he
    obtain ⟨rfl, rfl⟩ := he
    simp only [Bool.and_eq_true] at hc
    obtain ⟨c2, c3, c4⟩ := hc
    have R0 := R.part c2 c3
    refine (ht w _ args' R0 (renL_ok _ _ _ c4 ha)).mono fun en w' hh => ?_
    obtain ⟨r', h1, h2, h3⟩ := hh
    exact ⟨φ, r', φ.le_refl, h1, .of_sy h2, R.later h3⟩
/-- Calls that only read; where none fits, the call is done. -/
noncomputable def toldR (K : Nat) (ts : List (FuncId × TR)) (fb : ACall) : Orc := fun f => match ts.lookup f with
  | some t => some fun args h => match useR K t args h with
    | some r => some r
    | none => fb f args h
  | none => none
theorem toldR_ok {ts : List (FuncId × TR)} {fb : ACall} (ht : ∀ f t, ts.lookup f = some t → FnToldR P K f t.obs t.args t.u) (hf : CallGood P W K fb) : OrcOk P W K (toldR K ts fb) := by
  intro f g hg args h r h' he J φ w args' R ha
  unfold toldR at hg
  split at hg
  case h_2 => cases hg
  rename_i t hl
  cases hg
  simp only at he
  split at he
  · rename_i r0 hr
    cases he
    exact useR_ok (ht f t hl) hr R ha
  · exact hf f args h r h' he J φ w args' R ha
end
end Go.Ab
namespace Go.Ab
open Go.RowKit
set_option linter.unusedVariables false
set_option linter.unusedSectionVars false
set_option linter.unusedSimpArgs false
variable [Sg] {P : Program} {K N : Nat} {X : Ext} {call : ACall} {ops : Array Oper} {B : Array Nat} {k : PT Value → AHeap → Bool}
/-- As mixB, but of the first histories only those that begin so. -/
def mixP (P : Program) (K : Nat) (X : Ext) (call : ACall) (ops : Array Oper) (B : Array Nat) (k : PT Value → AHeap → Bool) : List Nat → Nat → Nat → PT Value → AHeap → Bool
  | [], f, A, e, h => mixB P K X call ops B k f A e h
  | _ :: _, 0, _, _, _ => false
  | i :: r, f + 1, A, e, h => match sweep P K X ops ops.toList 0 A e h with
    | none => false
    | some (A, e) => seenB P K X ops B A e h && (!((List.range ops.size).all fun i => A.testBit i) || k e h) && match ops[i]? with
      | some o => quiet o.op || A.testBit i || !canB A o || match awanted ops o e with
        | none => false
        | some false => mixP P K X call ops B k r f (A ||| 2 ^ i) (aput e o.dst undef) h
        | some true => match astep P K X call o.op e h with
          | some (v, h1) => mixP P K X call ops B k r f (A ||| 2 ^ i) (aput e o.dst v) h1
          | none => false
      | none => true
theorem mixP_step (h0 : 0 < ops.size) : ∀ (l : List Nat) (f A : Nat) (e : PT Value) (h : AHeap), (∀ j, j < ops.size → mixP P K X call ops B k (l ++ [j]) f A e h = true) → mixP P K X call ops B k l f A e h = true
  | [], 0, A, e, h, hj => by have := hj 0 h0; simp [mixP] at this
  | [], f + 1, A, e, h, hj => by
    simp only [mixP, mixB]
    have j0 := hj 0 h0
    simp only [List.nil_append, mixP] at j0
    split at j0
    · cases j0
    · rename_i A1 e1 hs
      simp only [Bool.and_eq_true] at j0
      try simp only [hs]
      rw [Bool.and_eq_true]
      refine ⟨by rw [Bool.and_eq_true]; exact j0.1, List.all_eq_true.2 fun i hi => ?_⟩
      have ji := hj i (List.mem_range.1 hi)
      simp only [List.nil_append, mixP, hs, Bool.and_eq_true] at ji
      exact ji.2
  | i :: r, 0, A, e, h, hj => by have := hj 0 h0; simp [mixP] at this
  | i :: r, f + 1, A, e, h, hj => by
    simp only [mixP]
    have j0 := hj 0 h0
    simp only [List.cons_append, mixP] at j0
    split at j0
    · cases j0
    · rename_i A1 e1 hs
      simp only [Bool.and_eq_true] at j0
      rw [Bool.and_eq_true]
      refine ⟨by rw [Bool.and_eq_true]; exact j0.1, ?_⟩
      have key : ∀ j, j < ops.size → _ := fun j hjj => by
        have jj := hj j hjj
        simp only [List.cons_append, mixP, hs, Bool.and_eq_true] at jj
        exact jj.2
      cases ho : ops[i]? with
      | none => rfl
      | some o =>
        simp only [ho] at key
        simp only
        cases hq : (quiet o.op || A1.testBit i || !canB A1 o) with
        | true => rfl
        | false =>
          simp only [hq, Bool.false_or] at key ⊢
          cases hw : awanted ops o e1 with
          | none => have := key 0 h0; simp only [hw] at this; cases this
          | some b =>
            simp only [hw] at key
            cases b with
            | false => exact mixP_step h0 r f _ _ _ fun j hjj => key j hjj
            | true =>
              simp only
              cases hst : astep P K X call o.op e1 h with
              | none => have := key 0 h0; simp only [hst] at this; cases this
              | some vh =>
                obtain ⟨v, h1⟩ := vh
                simp only [hst] at key
                exact mixP_step h0 r f _ _ _ fun j hjj => key j hjj
/-- The histories that begin so. -/
noncomputable def drawP (P : Program) (K N : Nat) (X : Ext) (call : ACall) (ops : Array Oper) (l : List Nat) (ps : List Path) (s s' : CS) (pre : List Nat) : Bool :=
  mixP P K X call ops (Region.before ops) (fun p h => subN K N s' (pathsN [] (pickE p l none3) h ps []) (pickE p l none3) h) pre (ops.size + 1) 0 (envC s) (heapC K s)
theorem drawN_of {l : List Nat} {ps : List Path} {s s' : CS} (h : mixOk ops = true) (h1 : drawP P K N X call ops l ps s s' [] = true) : drawN P K N X call ops l ps s s' = true := by
  simp only [drawN, Bool.and_eq_true]
  exact ⟨h, h1⟩
theorem drawP_step {l : List Nat} {ps : List Path} {s s' : CS} (h0 : 0 < ops.size) {pre : List Nat} (h : ∀ j, j < ops.size → drawP P K N X call ops l ps s s' (pre ++ [j]) = true) : drawP P K N X call ops l ps s s' pre = true :=
  mixP_step h0 pre _ _ _ _ h
end Go.Ab
namespace Go.Ab
open Go.RowKit
set_option linter.unusedVariables false
set_option linter.unusedSectionVars false
set_option linter.unusedSimpArgs false
section
variable [Sg] {P : Program} {W : World} {K N : Nat} {J : Nat → Option Obj}
/-- Outcomes known ahead, wherever the variables are as they are told. -/
def Known (P : Program) (K : Nat) (gl : List (Nat × List Value)) (f : FuncId) (args : List Value) (u : Value) : Prop := ∀ (w : World) (φ : Map), Told w K gl → ∀ args', VRs φ args args' →
    Calls P f args'.toArray w fun en w' => ∃ r', en = .returned r' ∧ VR φ u r' ∧ Below w.heap.size w w'
noncomputable def knownO (ts : List (FuncId × List Value × Value)) : Orc := fun f => match ts.lookup f with
  | some (as, u) => some fun args h => cond (vsames args as) (some (u, h)) none
  | none => none
theorem knownO_ok {gl : List (Nat × List Value)} (hT : Told W K gl) {ts : List (FuncId × List Value × Value)} (ht : ∀ f as u, ts.lookup f = some (as, u) → Known P K gl f as u) : OrcOk P W K (knownO ts) := by
  intro f g hg args h r h' he J φ w args' R ha
  unfold knownO at hg
  split at hg
  case h_2 => cases hg
  rename_i as u hl
  cases hg
  simp only at he
  cases hv : vsames args as with
  | false => rw [hv] at he; cases he
  | true =>
    rw [hv] at he
    cases he
    have := vsames_eq _ _ hv
    subst this
    refine (ht f _ _ hl w φ (hT.later R.below) args' ha).mono fun en w' hh => ?_
    obtain ⟨r', h1, h2, h3⟩ := hh
    exact ⟨φ, r', φ.le_refl, h1, h2, R.later h3⟩
theorem Always.known {gl : List (Nat × List Value)} {f : FuncId} {args args0 : List Value} {u r' : Value} (h : Always P K gl f args0 r') (ha : ∀ φ args', VRs φ args args' → args' = args0) (hu : ∀ φ, VR φ u r') : Known P K gl f args u := by
  intro w φ hT args' hv
  have := ha φ args' hv
  subst this
  exact (h w hT).mono fun en w' ⟨h1, h2⟩ => ⟨r', h1, hu φ, h2⟩

/-- A function in one world, by its segments. -/
theorem entryW_ok {fid : FuncId} {fn : Func} {c : Code} (hfn : P.funcs[fid]? = some fn) (hbody : fn.body = some c) {args args' : List Value} {R : Ending → World → Prop} (hlen : args.length ≤ fn.ntmps) {φ0 : Map} {w : World}
    (h : ∀ a, St P W K K J φ0 fn.ntmps (envC ⟨args.zipIdx.map fun p => (p.2, p.1), []⟩) (heapC K ⟨args.zipIdx.map fun p => (p.2, p.1), []⟩) a w → wpL P (bodyPost P fn R) (flatC c) a w)
    (hR : Rel P W K J φ0 (heapC K ⟨[], []⟩) w) (ha : VRs φ0 args args') : Calls P fid args'.toArray w R := by
  refine calls_of_wp hfn hbody (wp_flat c _ _ _ (h _ ?_))
  refine ⟨⟨φ0, fun B _ => rfl, hR.congr (fun B => rfl) rfl rfl, ?_⟩, fun B hB => ?_, rfl⟩
  · have hl := ha.length
    refine ⟨by simp; omega, fun i v hv => ?_⟩
    have hm : (i, v) ∈ args.zipIdx.map fun p => (p.2, p.1) := by
      rcases env_fold _ _ i v hv with h | h
      · exact h
      · simp at h
    obtain ⟨q, hq, hqe⟩ := List.mem_map.1 hm
    have hqi := List.mem_zipIdx' hq
    simp only [Prod.mk.injEq] at hqe
    obtain ⟨rfl, rfl⟩ := hqe
    obtain ⟨v', g1, g2⟩ := ha.get q.2 q.1 (by rw [List.getElem?_eq_getElem hqi.1]; exact congrArg some hqi.2.symm)
    refine ⟨v', ?_, g2⟩
    have hlt : q.2 < args'.length := (List.getElem?_eq_some_iff.1 g1).1
    rw [Array.getElem?_append_left (by simpa using hlt)]
    simpa using g1
  · obtain ⟨cs, es, e⟩ := hR.self B hB
    exact ⟨_, e⟩
/-- Values told by symbols. -/
theorem St.gen {φ0 : Map} {n : Nat} {s s' : CS} {a : Act} {w : World} (hst : St P W K N J φ0 n (envC s) (heapC K s) a w) (ho : s'.obs = s.obs)
    (he : ∀ t u, (t, u) ∈ s'.env → ∃ v, (envC s).get t = some v ∧ (u = v ∨ (noAddr v = true ∧ ∃ i, u = .chan (some i) ∧ Sg.σ i = some v))) : St P W K N J φ0 n (envC s') (heapC K s') a w := by
  obtain ⟨⟨φ, hag, R, E⟩, hself, hdf⟩ := hst
  refine ⟨⟨φ, hag, ?_, E.size, fun t u hu => ?_⟩, hself, hdf⟩
  · have : heapC K s' = heapC K s := by simp only [heapC, ho]
    rw [this]; exact R
  · rcases env_fold _ _ t u hu with h1 | h1
    · obtain ⟨v, h2, h3⟩ := he t u h1
      obtain ⟨v', h4, h5⟩ := E.get t v h2
      refine ⟨v', h4, ?_⟩
      rcases h3 with rfl | ⟨hn, i, rfl, hi⟩
      · exact h5
      · have : v' = v := by
          cases h5 with
          | flat _ => rfl
          | _ => simp [noAddr] at hn
        rw [this]
        exact .sym hi
    · simp at h1
end
end Go.Ab
namespace Go.Ab
open Go.RowKit
set_option linter.unusedVariables false
set_option linter.unusedSectionVars false
set_option linter.unusedSimpArgs false
noncomputable section
variable [Sg] {P : Program} {W : World} {K N : Nat} {J : Nat → Option Obj} {X : Ext} {call : FuncId → CallC} {callA : ACall} {φ : Map} {h : AHeap} {w : World}
theorem Rel.frozen (R : Rel P W K J φ h w) : Rel P w K (fun _ => none) φ ⟨h.m, h.next, h.next⟩ w := by
  refine ⟨Below.refl _ _, fun B o e => ?_, R.dom, R.inj, fun B x e hB => ?_, R.self, Nat.le_refl _, fun b O e => (nomatch e), R.es⟩
  · obtain ⟨x, hx, ho⟩ := R.obj B o e
    refine ⟨x, hx, ?_⟩
    have hl := R.dom B x hx
    have d : decide ((⟨h.m, h.next, h.next⟩ : AHeap).ro ≤ B) = false := by
      rw [decide_eq_false_iff_not]
      show ¬ (h.next ≤ B)
      omega
    rw [d]
    cases o with
    | dead => trivial
    | map es c => exact ho
    | cells c n e =>
      obtain ⟨C, f, E, k1, _, k2⟩ := ho
      exact ⟨C, f, E, k1, fun h => (by cases h), k2⟩
  · have := R.dom B x e
    have hB : h.next ≤ B := hB
    omega
/-- A cell of the model's that was laid since: told too. -/
theorem Rel.adopt {m : PT AObj} (R : Rel P w K (fun _ => none) φ ⟨m, N, N⟩ w) {bb : Nat} {v v' : Value} {t : TypeId} {f : Nat × Nat} (hb : w.heap[bb]? = some (.cells #[v'] t f)) (hfresh : ∀ B o x, m.get B = some o → φ B = some x → x.b ≠ bb) (hK : K ≤ N) (hv : VR φ v v') :
    ∃ ψ, φ.le ψ ∧ ψ N = some ⟨bb, 0, 0, 1, false⟩ ∧ Rel P w K (fun _ => none) ψ ⟨m.set N (.cells (PT.nil.set 0 v) 1 t), N + 1, N + 1⟩ w := by
  let ψ : Map := fun B => if B = N then some ⟨bb, 0, 0, 1, false⟩ else φ B
  have hle : φ.le ψ := fun B x e => by
    have : B < N := R.dom B x e
    show (if B = N then some _ else φ B) = some x
    rw [if_neg (by omega)]; exact e
  have inv : ∀ B x, ψ B = some x → (B = N ∧ x = ⟨bb, 0, 0, 1, false⟩) ∨ (B < N ∧ φ B = some x) := by
    intro B x e
    have e : (if B = N then some _ else φ B) = some x := e
    split at e
    · cases e; exact .inl ⟨‹_›, rfl⟩
    · exact .inr ⟨R.dom B x e, e⟩
  have ro : ∀ B, B < N + 1 → decide (N + 1 ≤ B) = false := fun B h => by rw [decide_eq_false_iff_not]; omega
  refine ⟨ψ, hle, by show (if N = N then _ else _) = _; rw [if_pos rfl], Below.refl _ _, fun B o e => ?_, fun B x e => ?_, fun B C x y o p hB hC l1 l2 e1 e2 e3 => ?_, fun B x e hB => ?_, fun B hB => ?_, Nat.le_refl _, fun b O e => (nomatch e), fun B x c n E e1 e2 e3 => ?_⟩
  · rw [PT.get_set] at e
    split at e
    · rename_i hBN
      subst hBN
      cases e
      refine ⟨_, if_pos rfl, #[v'], f, t, hb, fun hro => ?_, rfl, Nat.le_refl _, fun i u hi hu => ?_⟩
      · rw [ro N (by omega)] at hro; cases hro
      · obtain rfl : i = 0 := by omega
        rw [PT.get_set, if_pos rfl] at hu
        cases hu
        exact ⟨v', rfl, hv.mono hle⟩
    · obtain ⟨x, hx, ho⟩ := R.obj B o e
      have hB : B < N := R.dom B x hx
      refine ⟨x, hle _ _ hx, ?_⟩
      rw [show (⟨m.set N (.cells (PT.nil.set 0 v) 1 t), N + 1, N + 1⟩ : AHeap).ro = N + 1 from rfl, ro B (by omega)]
      have d : decide ((⟨m, N, N⟩ : AHeap).ro ≤ B) = false := by rw [decide_eq_false_iff_not]; show ¬ (N ≤ B); omega
      rw [d] at ho
      exact ho.mono hle
  · show B < N + 1
    rcases inv B x e with ⟨h1, _⟩ | ⟨h1, _⟩ <;> omega
  · rw [PT.get_set] at hB hC
    rcases inv B x e1 with ⟨h1, h2⟩ | ⟨h1, h2⟩ <;> rcases inv C y e2 with ⟨h3, h4⟩ | ⟨h3, h4⟩
    · rw [h1, h3]
    · rw [if_neg (by omega)] at hC
      subst h2
      exact absurd e3.symm (hfresh C p y hC h4)
    · rw [if_neg (by omega)] at hB
      subst h4
      exact absurd e3 (hfresh B o x hB h2)
    · rw [if_neg (by omega)] at hB hC
      exact R.inj B C x y o p hB hC l1 l2 h2 h4 e3
  · have hB : N + 1 ≤ B := hB
    rcases inv B x e with ⟨h1, _⟩ | ⟨h1, _⟩ <;> omega
  · obtain ⟨cs, es, e⟩ := R.self B hB
    exact ⟨cs, es, hle _ _ e⟩
  · rw [PT.get_set] at e3
    rcases inv B x e1 with ⟨h1, h2⟩ | ⟨h1, h2⟩
    · subst h2; cases e2
    · rw [if_neg (by omega)] at e3
      exact R.es B x c n E h2 e2 e3
def endP (P : Program) (G : Nat → Bool) (f : E3 → AHeap → (E3 → AHeap → OutK) → OutK) (rs : List ResultVar) (env : List (Nat × Value)) (h : AHeap) : Bool :=
  (env.all fun p => G p.1 && Nat.blt p.1 512) && match f (e3C ⟨env, []⟩) h (fun e h => some (.normal, e, h)) with
    | some (x, e, h') => endsB x && ((resC P rs).run e h').isSome
    | none => false
theorem partial_calls (hX : ExtOk P w K X) (hN : NamesOk P) (hm : P.follows .mixedOrders = true) (hcA : CallGood P w K callA) (hle : CallLe call callA) {L : Nat} {fid : FuncId} {fn : Func} {c : Code} (hfn : P.funcs[fid]? = some fn) (hbody : fn.body = some c) (hok : (flatC c).all (codeOk fn.ntmps) = true)
    {G : Nat → Bool} {env : List (Nat × Value)} (R : Rel P w K (fun _ => none) φ h w) {args' : Array Value} (hsz : args'.size ≤ fn.ntmps) (ha : ∀ t u, (t, u) ∈ env → ∃ v', args'[t]? = some v' ∧ VR φ u v')
    (hb : endP P G (codeK P K X call G L (seqOf (flatC c))).run fn.results.toList env h = true) : Calls P fid args' w fun en w' => ∃ r', en = .returned r' ∧ Below w.heap.size w w' := by
  simp only [endP, Bool.and_eq_true] at hb
  obtain ⟨h1, h2⟩ := hb
  split at h2
  case h_2 => cases h2
  rename_i x e h' hr
  simp only [Bool.and_eq_true] at h2
  obtain ⟨hx, hres⟩ := h2
  obtain ⟨vs, hvs⟩ := Option.isSome_iff_exists.1 hres
  refine calls_of_wp hfn hbody (wp_flat c _ _ _ ?_)
  have E : ER φ fn.ntmps (envC ⟨env, []⟩) (args' ++ Array.replicate (fn.ntmps - args'.size) undef) := by
    refine ⟨by simp; omega, fun t u hu => ?_⟩
    rcases env_fold _ _ t u hu with h3 | h3
    · obtain ⟨v', h4, h5⟩ := ha t u h3
      have hlt : t < args'.size := (Array.getElem?_eq_some_iff.1 h4).1
      exact ⟨v', by rw [Array.getElem?_append_left hlt]; exact h4, h5⟩
    · simp at h3
  have fin : ∀ (p' : PT Value), LeE G e p' → evalC P K X callA L (seqOf (flatC c)) (envC ⟨env, []⟩) h = some (x, p', h') →
      wpL P (bodyPost P fn fun en w' => ∃ r', en = .returned r' ∧ Below w.heap.size w w') (flatC c) { tmps := args' ++ Array.replicate (fn.ntmps - args'.size) undef, defers := [] } w := by
    intro p' hle2 he
    refine wpL_mono (fun y a' w' hp => ?_) _ _ _ (evalL_ok (J := fun _ => none) hX hN hcA hm (flatC c) (fun c hc => List.all_eq_true.1 hok c hc) φ _ _ _ w _ _ _ he R E rfl)
    obtain ⟨rfl, hdf', ψ0, hle0, R', E'⟩ := hp
    obtain ⟨v', k1, k2⟩ := results_ok R' E' (resC_spec hle2 _ _ hvs)
    cases y with
    | normal => exact ⟨hdf', v', k1, v', rfl, R'.below⟩
    | ret => exact ⟨hdf', v', k1, v', rfl, R'.below⟩
    | _ => cases hx
  rcases codeK_ok hle (seqOf (flatC c)) _ _ _ _ _ hr (e3C_le h1) with ⟨e1, p1, h1', g1, g2, g3⟩ | ⟨x1, e1, p1, h1', g1, g2, g3, g4⟩
  · cases g3; exact fin p1 g2 g1
  · cases g4; exact fin p1 g3 g1
/-- From what is known to what will be asked, by some code. -/
def partB (P : Program) (K : Nat) (G : Nat → Bool) (f : E3 → AHeap → (E3 → AHeap → OutK) → OutK) (env : List (Nat × Value)) (h : AHeap) (nm : E3 → AHeap → List Nat) (obs' : List PO) (env' : List (Nat × Value)) : Bool :=
  (env.all fun p => G p.1 && Nat.blt p.1 512) && match f (e3C ⟨env, []⟩) h (fun e h => some (.normal, e, h)) with
    | some (.normal, e, h') => let rl := nm e h'
      distinctB rl && (posB K (renOf K rl) h' obs' rl && envB K (renOf K rl) e env')
    | _ => false
theorem part_wp (hX : ExtOk P w K X) (hN : NamesOk P) (hm : P.follows .mixedOrders = true) (hcA : CallGood P w K callA) (hle : CallLe call callA) {L n : Nat} {c : Code} (hok : codeOk n c = true)
    {G : Nat → Bool} {env : List (Nat × Value)} (R : Rel P w K (fun _ => none) φ h w) {a : Act} (hsz : a.tmps.size = n) (hdf : a.defers = []) (ha : ∀ t u, (t, u) ∈ env → ∃ v', a.tmps[t]? = some v' ∧ VR φ u v')
    {nm : E3 → AHeap → List Nat} {obs' : List PO} {env' : List (Nat × Value)} (hb : partB P K G (codeK P K X call G L c).run env h nm obs' env' = true)
    {t0 : Nat} {v0 : Value} (hk : (match (codeK P K X call G L c).run (e3C ⟨env, []⟩) h (fun e h => some (.normal, e, h)) with
      | some (_, e, _) => lkd e t0
      | none => none) = some v0) :
    c.wp P (fun y a' w' => y = .normal ∧ a'.defers = [] ∧ a'.tmps.size = n ∧ Below w.heap.size w w' ∧ (∃ χ v', a'.tmps[t0]? = some v' ∧ VR χ v0 v') ∧ ∃ ψ, Rel P w' K (fun _ => none) ψ (heapP K obs') w' ∧ ∀ t u, (t, u) ∈ env' → ∃ v', a'.tmps[t]? = some v' ∧ VR ψ u v') a w := by
  simp only [partB, Bool.and_eq_true] at hb
  obtain ⟨h1, h2⟩ := hb
  split at h2
  case h_2 => cases h2
  rename_i e h' hr
  simp only [Bool.and_eq_true] at h2
  obtain ⟨hd, hp, he⟩ := h2
  rw [hr] at hk
  simp only at hk
  have E : ER φ n (envC ⟨env, []⟩) a.tmps := by
    refine ⟨hsz, fun t u hu => ?_⟩
    rcases env_fold _ _ t u hu with h3 | h3
    · exact ha t u h3
    · simp at h3
  have fin : ∀ (p' : PT Value), LeE G e p' → evalC P K X callA L c (envC ⟨env, []⟩) h = some (.normal, p', h') → c.wp P (fun y a' w' => y = .normal ∧ a'.defers = [] ∧ a'.tmps.size = n ∧ Below w.heap.size w w' ∧ (∃ χ v', a'.tmps[t0]? = some v' ∧ VR χ v0 v') ∧ ∃ ψ, Rel P w' K (fun _ => none) ψ (heapP K obs') w' ∧ ∀ t u, (t, u) ∈ env' → ∃ v', a'.tmps[t]? = some v' ∧ VR ψ u v') a w := by
    intro p' hle2 hev
    refine wp_mono (evalC_ok (J := fun _ => none) hX hN hcA hm c hok φ _ _ a w _ _ _ hev R E hdf) fun y a' w' hpost => ?_
    obtain ⟨rfl, hdf', ψ0, hle0, R', E'⟩ := hpost
    obtain ⟨u0, k5, k6⟩ := E'.get t0 v0 (hle2.1 t0 v0 hk)
    refine ⟨rfl, hdf', E'.size, R'.below, ⟨_, u0, k5, k6⟩, _, R'.part hd hp, fun t u htu => ?_⟩
    obtain ⟨v, k1, k2⟩ := envB_spec _ he t u htu
    obtain ⟨v', k3, k4⟩ := E'.get t v (hle2.1 t v k1)
    exact ⟨v', k3, renB_ok _ _ _ k2 k4⟩
  rcases codeK_ok hle c _ _ _ _ _ hr (e3C_le h1) with ⟨e1, p1, h1', g1, g2, g3⟩ | ⟨x1, e1, p1, h1', g1, g2, g3, g4⟩
  · cases g3; exact fin p1 g2 g1
  · cases g4; exact absurd rfl g2
end
end Go.Ab
