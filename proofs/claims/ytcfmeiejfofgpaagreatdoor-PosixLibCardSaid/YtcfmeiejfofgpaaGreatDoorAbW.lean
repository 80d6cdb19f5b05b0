/- The abstract evaluator: a memory told anew under other names, no more than is known. -/
import Derived.Test.YtcfmeiejfofgpaaGreatDoorAbV
namespace Go.Ab
open Go.RowKit
set_option linter.unusedVariables false
set_option linter.unusedSectionVars false
set_option linter.unusedSimpArgs false

section
variable [Sg] {P : Program} {W : World} {K : Nat} {J : Nat → Option Obj} {φ : Map} {h : AHeap} {w : World}

def renN (K : Nat) (ρ : Nat → Option Nat) (B D : Nat) : Bool :=
  if B < K then Nat.beq B D else match ρ B with
    | some E => Nat.beq E D
    | none => false
-- Is the second value the first one, with other names of blocks?
mutual
noncomputable def renB (K : Nat) (ρ : Nat → Option Nat) : Value → Value → Bool
  | .pointer (some a), .pointer (some b) => a.spot.isNone && (b.spot.isNone && (Nat.beq a.off b.off && renN K ρ a.block b.block))
  | .slice (some a) l c, .slice (some b) m d => a.spot.isNone && (b.spot.isNone && (Nat.beq a.off b.off && (Nat.beq l m && (Nat.beq c d && renN K ρ a.block b.block))))
  | .map (some a), .map (some b) => renN K ρ a b
  | .iface t v, .iface u w => Nat.beq t u && renB K ρ v w
  | .string s, .string t => beqL s.data.toList t.data.toList
  | .int k (.ofNat n), .int l (.ofNat m) => (kindC k).run l && Nat.beq n m
  | .agg ⟨a⟩, .agg ⟨b⟩ => renL K ρ a b
  | .tuple ⟨a⟩, .tuple ⟨b⟩ => renL K ρ a b
  | a, b => isSy a && veq a b
noncomputable def renL (K : Nat) (ρ : Nat → Option Nat) : List Value → List Value → Bool
  | [], [] => true
  | a :: l, b :: m => renB K ρ a b && renL K ρ l m
  | _, _ => false
end
def renM (K : Nat) (ρ : Nat → Option Nat) (φ : Map) : Map := fun B => if B < K then φ B else match ρ B with
  | some D => φ D
  | none => none
theorem renN_eq {K : Nat} {ρ : Nat → Option Nat} {B D : Nat} (h : renN K ρ B D = true) (φ : Map) : renM K ρ φ B = φ D := by
  simp only [renN] at h
  unfold renM
  split at h
  · rename_i hB; rw [if_pos hB, Nat.eq_of_beq_eq_true h]
  · rename_i hB
    rw [if_neg hB]
    split at h
    · rename_i E hE; rw [Nat.eq_of_beq_eq_true h]
    · cases h
theorem none_of {α : Type} {o : Option α} (h : o.isNone = true) : o = none := by cases o <;> first | rfl | cases h
mutual
theorem renB_ok {K : Nat} {ρ : Nat → Option Nat} {φ : Map} : ∀ (u v v' : Value), renB K ρ u v = true → VR φ v v' → VR (renM K ρ φ) u v'
  | .pointer (some a), v, v', h, r => by
    cases v with
    | pointer o =>
      cases o with
      | none => simp [renB, isSy, veq] at h
      | some b =>
        simp only [renB, Bool.and_eq_true] at h
        obtain ⟨h1, h2, h3, h4⟩ := h
        obtain ⟨x, hx, hs, rfl⟩ := r.ptr_inv
        have ho : a.off = b.off := Nat.eq_of_beq_eq_true h3
        rw [← ho]
        exact .ptr (by rw [renN_eq h4]; exact hx) (none_of h1)
    | _ => simp [renB, isSy, veq, noAddr] at h
  | .slice (some a) l c, v, v', h, r => by
    cases v with
    | slice o m d =>
      cases o with
      | none => simp [renB, isSy, veq, noAddr] at h
      | some b =>
        simp only [renB, Bool.and_eq_true] at h
        obtain ⟨h1, h2, h3, h4, h5, h6⟩ := h
        obtain ⟨x, cap', o, hx, hs, hl1, hl2, hgr, ho, rfl⟩ := r.slice_inv
        have e1 : a.off = b.off := Nat.eq_of_beq_eq_true h3
        have e2 : l = m := Nat.eq_of_beq_eq_true h4
        have e3 : c = d := Nat.eq_of_beq_eq_true h5
        subst e2; subst e3
        exact .slice (by rw [renN_eq h6]; exact hx) (none_of h1) hl1 hl2 (by rw [e1]; exact hgr) (by rw [e1]; exact ho)
    | _ => simp [renB, isSy, veq, noAddr] at h
  | .map (some a), v, v', h, r => by
    cases v with
    | map o =>
      cases o with
      | none => simp [renB, isSy, veq, noAddr] at h
      | some b =>
        simp only [renB] at h
        obtain ⟨x, hx, rfl⟩ := r.map_inv
        exact .map (by rw [renN_eq h]; exact hx)
    | _ => simp [renB, isSy, veq, noAddr] at h
  | .iface t u, v, v', h, r => by
    cases v with
    | iface t2 v =>
      simp only [renB, Bool.and_eq_true] at h
      have e1 := Nat.eq_of_beq_eq_true h.1
      subst e1
      obtain ⟨v1, rfl, r1⟩ := r.iface_inv
      exact .iface (renB_ok u v v1 h.2 r1)
    | _ => simp [renB, isSy, veq, noAddr] at h
  | .agg ⟨a⟩, v, v', h, r => by
    cases v with
    | agg b =>
      obtain ⟨b⟩ := b
      simp only [renB] at h
      obtain ⟨c', rfl, hc⟩ := r.agg_inv
      exact .of_aggs (renL_ok a b c'.toList h hc)
    | _ => simp [renB, isSy, veq, noAddr] at h
  | .tuple ⟨a⟩, v, v', h, r => by
    cases v with
    | tuple b =>
      obtain ⟨b⟩ := b
      simp only [renB] at h
      obtain ⟨c', rfl, hc⟩ := r.tuple_inv
      exact .of_tuples (renL_ok a b c'.toList h hc)
    | _ => simp [renB, isSy, veq, noAddr] at h
  | .bool x, v, v', h, r => flat_ok _ v v' (by simpa [renB] using h) r
  | .int k (.ofNat n), v, v', h, r => by
    cases v with
    | int l m =>
      cases m with
      | ofNat m =>
        simp only [renB, Bool.and_eq_true] at h
        have e1 := kindC_eq _ _ h.1
        have e2 := Nat.eq_of_beq_eq_true h.2
        subst e1; subst e2
        rw [r.flat_inv rfl]; exact .flat rfl
      | negSucc m => simp [renB, isSy, veq, noAddr] at h
    | _ => simp [renB, isSy, veq, noAddr] at h
  | .int k (.negSucc n), v, v', h, r => flat_ok _ v v' (by simpa [renB] using h) r
  | .float k x, v, v', h, r => flat_ok _ v v' (by simpa [renB] using h) r
  | .complex k x y, v, v', h, r => flat_ok _ v v' (by simpa [renB] using h) r
  | .string x, v, v', h, r => by
    cases v with
    | string y =>
      simp only [renB, beqL_eq, beq_iff_eq, Array.toList_inj] at h
      have e1 : x = y := ByteArray.ext h
      subst e1
      rw [r.flat_inv rfl]; exact .flat rfl
    | _ => simp [renB, isSy, veq, noAddr] at h
  | .pointer none, v, v', h, r => flat_ok _ v v' (by simpa [renB] using h) r
  | .slice none l c, v, v', h, r => flat_ok _ v v' (by simpa [renB] using h) r
  | .map none, v, v', h, r => flat_ok _ v v' (by simpa [renB] using h) r
  | .chan x, v, v', h, r => flat_ok _ v v' (by simpa [renB] using h) r
  | .func f a b, v, v', h, r => flat_ok _ v v' (by simpa [renB] using h) r
  | .nilFunc, v, v', h, r => flat_ok _ v v' (by simpa [renB] using h) r
  | .nilIface, v, v', h, r => flat_ok _ v v' (by simpa [renB] using h) r
theorem flat_ok {K : Nat} {ρ : Nat → Option Nat} {φ : Map} (u v v' : Value) (h : isSy u = true ∧ veq u v = true) (r : VR φ v v') : VR (renM K ρ φ) u v' := by
  have e := veq_eq _ _ h.2
  subst e
  exact .of_sy (r.sy (isSy_or h.1))
theorem renL_ok {K : Nat} {ρ : Nat → Option Nat} {φ : Map} : ∀ (l m m' : List Value), renL K ρ l m = true → VRs φ m m' → VRs (renM K ρ φ) l m'
  | [], m, m', h, r => by
    cases m with
    | nil => cases r; exact .nil
    | cons => simp [renL] at h
  | u :: l, m, m', h, r => by
    cases r with
    | nil => simp [renL] at h
    | cons h1 h2 =>
      simp only [renL, Bool.and_eq_true] at h
      exact .cons (renB_ok u _ _ h.1 h1) (renL_ok l _ _ h.2 h2)
end

/-! ### A memory told anew -/
/-- What is said of a block. -/
inductive CO where
  | cells (l : List Value) (e : TypeId)
  | map (es : List MapEntry) (clock : Nat)
noncomputable def CO.obj : CO → AObj
  | .cells l e => .cells (rowT 20 l) l.length e
  | .map es c => .map es c
noncomputable def rowB (K : Nat) (ρ : Nat → Option Nat) (c : PT Value) : Nat → List Value → Bool
  | _, [] => true
  | i, u :: l => (match fget c i with
    | some v => renB K ρ u v
    | none => false) && rowB K ρ c (i + 1) l
noncomputable def entB (K : Nat) (ρ : Nat → Option Nat) : List MapEntry → List MapEntry → Bool
  | [], [] => true
  | x :: l, y :: m => renB K ρ x.key y.key && (renB K ρ x.val y.val && (Nat.beq x.born y.born && entB K ρ l m))
  | _, _ => false
noncomputable def coB (K : Nat) (ρ : Nat → Option Nat) : CO → Option AObj → Bool
  | .cells l e, some (.cells c n f) => Nat.beq e f && (Nat.beq l.length n && (Nat.blt l.length 1000000 && rowB K ρ c 0 l))
  | .map es k, some (.map fs j) => Nat.beq k j && entB K ρ es fs
  | _, _ => false
theorem rowB_spec {K : Nat} {ρ : Nat → Option Nat} {c : PT Value} : ∀ (l : List Value) (i : Nat), rowB K ρ c i l = true → ∀ j u, l[j]? = some u → ∃ v, c.get (i + j) = some v ∧ renB K ρ u v = true
  | [], i, h, j, u, hu => by simp at hu
  | a :: l, i, h, j, u, hu => by
    simp only [rowB, Bool.and_eq_true] at h
    cases j with
    | zero =>
      simp at hu; subst hu
      have h1 := h.1
      rw [fget_eq] at h1
      cases hc : c.get i with
      | none => rw [hc] at h1; cases h1
      | some v => rw [hc] at h1; exact ⟨v, rfl, h1⟩
    | succ j =>
      obtain ⟨v, h2, h3⟩ := rowB_spec l (i + 1) h.2 j u (by simpa using hu)
      exact ⟨v, by rw [show i + (j + 1) = i + 1 + j by omega]; exact h2, h3⟩
theorem entB_ok {K : Nat} {ρ : Nat → Option Nat} {φ : Map} : ∀ (l m m' : List MapEntry), entB K ρ l m = true → ERs φ m m' → ERs (renM K ρ φ) l m'
  | [], m, m', h, r => by
    cases m with
    | nil => cases r; exact .nil
    | cons => simp [entB] at h
  | x :: l, m, m', h, r => by
    cases r with
    | nil => simp [entB] at h
    | cons h1 h2 h3 h4 =>
      simp only [entB, Bool.and_eq_true] at h
      have hb := Nat.eq_of_beq_eq_true h.2.2.1
      exact .cons (renB_ok _ _ _ h.1 h1) (renB_ok _ _ _ h.2.1 h2) (hb.trans h3) (entB_ok l _ _ h.2.2.2 h4)
/-- Blocks one by one, by their new and old names. -/
structure Ren (K : Nat) (ρ : Nat → Option Nat) (h : AHeap) (C : AHeap) : Prop where
  ro : h.ro = K
  cro : C.ro = K
  next : K ≤ C.next
  obj : ∀ B o, C.m.get B = some o → K ≤ B ∧ ∃ D, ρ B = some D ∧ ((∃ c n e c', o = .cells c n e ∧ h.m.get D = some (.cells c' n e) ∧ ∀ i u, i < n → c.get i = some u → ∃ v, c'.get i = some v ∧ renB K ρ u v = true) ∨
    (∃ es k es', o = .map es k ∧ h.m.get D = some (.map es' k) ∧ entB K ρ es es' = true))
  dom : ∀ B D, ρ B = some D → B < C.next ∧ K ≤ D
  inj : ∀ B B' D, ρ B = some D → ρ B' = some D → B = B'
theorem Rel.ren (R : Rel P W K J φ h w) {ρ : Nat → Option Nat} {C : AHeap} (H : Ren K ρ h C) : Rel P W K J (renM K ρ φ) C w := by
  have inv : ∀ B x, renM K ρ φ B = some x → (B < K ∧ φ B = some x) ∨ (K ≤ B ∧ ∃ D, ρ B = some D ∧ K ≤ D ∧ B < C.next ∧ φ D = some x) := by
    intro B x e
    unfold renM at e
    split at e
    · rename_i hB; exact .inl ⟨hB, e⟩
    · rename_i hB
      split at e
      · rename_i D hD; exact .inr ⟨by omega, D, hD, (H.dom B D hD).2, (H.dom B D hD).1, e⟩
      · cases e
  have fwd : ∀ B D, K ≤ B → ρ B = some D → renM K ρ φ B = φ D := by
    intro B D hB hD
    unfold renM
    rw [if_neg (by omega), hD]
  have own : ∀ B o, C.m.get B = some o → ∃ D o', K ≤ B ∧ K ≤ D ∧ ρ B = some D ∧ h.m.get D = some o' ∧ o'.live = true := by
    intro B o hB
    obtain ⟨hK, D, hD, h1 | h1⟩ := H.obj B o hB
    · obtain ⟨c, n, e, c', _, h2, _⟩ := h1; exact ⟨D, _, hK, (H.dom B D hD).2, hD, h2, rfl⟩
    · obtain ⟨es, k, es', _, h2, _⟩ := h1; exact ⟨D, _, hK, (H.dom B D hD).2, hD, h2, rfl⟩
  refine ⟨R.below, ?_, ?_, ?_, ?_, ?_, ?_, ?_, ?_, ?_, ?_⟩
  · intro B o hB
    obtain ⟨hK, D, hD, h1⟩ := H.obj B o hB
    have hDK := (H.dom B D hD).2
    have d1 : decide (h.ro ≤ D) = true := by rw [H.ro]; exact decide_eq_true hDK
    have d2 : decide (C.ro ≤ B) = true := by rw [H.cro]; exact decide_eq_true hK
    rcases h1 with ⟨c, n, e, c', rfl, h2, h3⟩ | ⟨es, k, es', rfl, h2, h3⟩
    · obtain ⟨x, hx, hobj⟩ := R.obj D _ h2
      rw [d1] at hobj
      obtain ⟨CC, f, E, k1, k0, k2, k3, k4⟩ := hobj
      refine ⟨x, by rw [fwd B D hK hD]; exact hx, ?_⟩
      rw [d2]
      exact ⟨CC, f, E, k1, k0, k2, k3, fun i u hi hu => by
        obtain ⟨v, g1, g2⟩ := h3 i u hi hu
        obtain ⟨v', g3, g4⟩ := k4 i v hi g1
        exact ⟨v', g3, renB_ok _ _ _ g2 g4⟩⟩
    · obtain ⟨x, hx, hobj⟩ := R.obj D _ h2
      obtain ⟨es2, k1, k2⟩ := hobj
      exact ⟨x, by rw [fwd B D hK hD]; exact hx, es2, k1, entB_ok _ _ _ h3 k2⟩
  · intro B x e
    rcases inv B x e with ⟨h1, _⟩ | ⟨_, D, _, _, h3, _⟩
    · have := H.next; omega
    · exact h3
  · intro B B' x y o p hB hB' l1 l2 e1 e2 e3
    obtain ⟨D, o1, hK, hDK, hD, h1, h2⟩ := own B o hB
    obtain ⟨D', o1', hK', hDK', hD', h1', h2'⟩ := own B' p hB'
    rw [fwd B D hK hD] at e1
    rw [fwd B' D' hK' hD'] at e2
    have := R.inj D D' x y _ _ h1 h1' h2 h2' e1 e2 e3
    subst this
    exact H.inj B B' D hD hD'
  · intro B x e hro
    rw [H.cro] at hro
    rcases inv B x e with ⟨h1, _⟩ | ⟨_, D, hD, hDK, _, h2⟩
    · omega
    · exact R.old D x h2 (by rw [H.ro]; exact hDK)
  · intro B x e hro
    rw [H.cro] at hro
    rcases inv B x e with ⟨h1, h2⟩ | ⟨h1, _⟩
    · exact R.fix B x h2 (by rw [H.ro]; exact h1)
    · omega
  · intro B x e hKB
    rcases inv B x e with ⟨h1, _⟩ | ⟨_, D, hD, hDK, _, h2⟩
    · omega
    · exact R.size D x h2 hDK
  · intro B hB
    obtain ⟨cs, es, e⟩ := R.self B hB
    exact ⟨cs, es, by unfold renM; rw [if_pos hB]; exact e⟩
  · rw [H.cro]; exact H.next
  · intro b O hb
    obtain ⟨j1, j2⟩ := R.junk b O hb
    refine ⟨j1, fun B x e => ?_⟩
    rcases inv B x e with ⟨_, h2⟩ | ⟨_, D, _, _, _, h2⟩
    · exact j2 B x h2
    · exact j2 D x h2
  · intro B x c n E e1 e2 e3
    obtain ⟨hK, D, hD, h1⟩ := H.obj B _ e3
    rw [fwd B D hK hD] at e1
    rcases h1 with ⟨c1, n1, e1', c1', hh, h2, _⟩ | ⟨es, k, es', hh, _, _⟩
    · cases hh; exact R.es D x _ _ _ e1 e2 h2
    · cases hh

/-! ### States told in lists -/
structure CS where
  env : List (Nat × Value)
  obs : List CO
noncomputable def putObs (K : Nat) : List CO → PT AObj
  | l => PT.nil.put K (l.map CO.obj)
noncomputable def heapC (K : Nat) (s : CS) : AHeap := ⟨PT.nil.put K (s.obs.map CO.obj), K + s.obs.length, K⟩
def envC (s : CS) : PT Value := s.env.foldl (fun t p => t.set p.1 p.2) .nil
noncomputable def envB (K : Nat) (ρ : Nat → Option Nat) (e : E3) : List (Nat × Value) → Bool
  | [] => true
  | (t, u) :: r => (match lkd e t with
    | some v => renB K ρ u v
    | none => false) && envB K ρ e r
noncomputable def obsB (K : Nat) (ρ : Nat → Option Nat) (h : AHeap) : List CO → List Nat → Bool
  | [], [] => true
  | o :: l, D :: m => Nat.ble K D && (coB K ρ o (fget h.m D) && obsB K ρ h l m)
  | _, _ => false
def distinctB : List Nat → Bool
  | [] => true
  | a :: l => (l.all fun b => !(Nat.beq a b)) && distinctB l
def renOf (K : Nat) (rl : List Nat) : Nat → Option Nat := fun B => if B < K then none else rl[B - K]?
/-- Is a state what is told, by these names? -/
noncomputable def subB (K : Nat) (s : CS) (rl : List Nat) (e : E3) (h : AHeap) : Bool :=
  Nat.beq h.ro K && (distinctB rl && (obsB K (renOf K rl) h s.obs rl && envB K (renOf K rl) e s.env))
theorem distinctB_spec : ∀ (l : List Nat), distinctB l = true → ∀ (i j a : Nat), l[i]? = some a → l[j]? = some a → i = j
  | [], _, i, j, a, h, _ => by simp at h
  | x :: l, hd, i, j, a, hi, hj => by
    simp only [distinctB, Bool.and_eq_true] at hd
    have nox : ∀ j : Nat, l[j]? ≠ some x := fun j hh => by
      have := List.all_eq_true.1 hd.1 x (List.mem_of_getElem? hh)
      simp at this
    cases i with
    | zero =>
      cases j with
      | zero => rfl
      | succ j => simp at hi hj; subst hi; exact absurd hj (nox j)
    | succ i =>
      cases j with
      | zero => simp at hi hj; subst hj; exact absurd hi (nox i)
      | succ j => simp at hi hj; rw [distinctB_spec l hd.2 i j a hi hj]
theorem obsB_spec {K : Nat} {ρ : Nat → Option Nat} {h : AHeap} : ∀ (l : List CO) (m : List Nat), obsB K ρ h l m = true → l.length = m.length ∧ ∀ (i : Nat) (o : CO), l[i]? = some o → ∃ D, m[i]? = some D ∧ K ≤ D ∧ coB K ρ o (h.m.get D) = true
  | [], [], _ => ⟨rfl, fun i o h => by simp at h⟩
  | [], _ :: _, h => by simp [obsB] at h
  | _ :: _, [], h => by simp [obsB] at h
  | o :: l, D :: m, hh => by
    simp only [obsB, Bool.and_eq_true, fget_eq] at hh
    obtain ⟨h1, h2⟩ := obsB_spec l m hh.2.2
    refine ⟨by simp [h1], fun i o' hi => ?_⟩
    cases i with
    | zero => simp at hi; subst hi; exact ⟨D, rfl, Nat.le_of_ble_eq_true hh.1, hh.2.1⟩
    | succ i => obtain ⟨D', k⟩ := h2 i o' (by simpa using hi); exact ⟨D', by simpa using k.1, k.2⟩
theorem obsB_ge {K : Nat} {ρ : Nat → Option Nat} {h : AHeap} : ∀ (l : List CO) (m : List Nat), obsB K ρ h l m = true → ∀ D ∈ m, K ≤ D
  | [], [], _ => fun D hD => by simp at hD
  | [], _ :: _, h => by simp [obsB] at h
  | _ :: _, [], h => by simp [obsB] at h
  | o :: l, D :: m, hh => by
    simp only [obsB, Bool.and_eq_true] at hh
    intro E hE
    rcases List.mem_cons.1 hE with rfl | hE
    · exact Nat.le_of_ble_eq_true hh.1
    · exact obsB_ge l m hh.2.2 E hE
theorem envB_spec {K : Nat} {ρ : Nat → Option Nat} {e : E3} : ∀ (l : List (Nat × Value)), envB K ρ e l = true → ∀ t u, (t, u) ∈ l → ∃ v, lkd e t = some v ∧ renB K ρ u v = true
  | [], _, t, u, h => by simp at h
  | (t0, u0) :: l, hh, t, u, hm => by
    simp only [envB, Bool.and_eq_true] at hh
    rcases List.mem_cons.1 hm with h1 | h1
    · obtain ⟨ht, hu⟩ := Prod.mk.inj h1
      subst ht; subst hu
      have h2 := hh.1
      cases hk : lkd e t with
      | none => rw [hk] at h2; cases h2
      | some v => rw [hk] at h2; exact ⟨v, rfl, h2⟩
    · exact envB_spec l hh.2 t u h1
theorem env_fold : ∀ (l : List (Nat × Value)) (p : PT Value) (t : Nat) (u : Value), (l.foldl (fun t p => t.set p.1 p.2) p).get t = some u → (t, u) ∈ l ∨ p.get t = some u
  | [], p, t, u, h => .inr h
  | (t0, u0) :: l, p, t, u, h => by
    rcases env_fold l _ t u h with h1 | h1
    · exact .inl (List.mem_cons_of_mem _ h1)
    · simp only at h1
      rw [PT.get_set] at h1
      split at h1
      · rename_i ht; subst ht; cases h1; exact .inl (List.mem_cons_self ..)
      · exact .inr h1
theorem sub_ok' {s : CS} {rl : List Nat} {e : E3} {n : Nat} {p : PT Value} {G : Nat → Bool} {tmps : Array Value} (R : Rel P W K J φ h w) (E : ER φ n p tmps) (L : LeE G e p) (hs : subB K s rl e h = true) :
    ∃ ψ, ψ = renM K (renOf K rl) φ ∧ Rel P W K J ψ (heapC K s) w ∧ ER ψ n (envC s) tmps := by
  simp only [subB, Bool.and_eq_true] at hs
  obtain ⟨h1, h2, h3, h4⟩ := hs
  have hro : h.ro = K := Nat.eq_of_beq_eq_true h1
  obtain ⟨hlen, hobs⟩ := obsB_spec _ _ h3
  have hge := obsB_ge _ _ h3
  refine ⟨renM K (renOf K rl) φ, rfl, R.ren ⟨hro, rfl, Nat.le_add_right _ _, ?_, ?_, ?_⟩, E.size, fun t u ht => ?_⟩
  · intro B o hB
    simp only [heapC] at hB
    rw [PT.get_put] at hB
    split at hB
    · rename_i hr
      rw [List.getElem?_map] at hB
      cases hc : s.obs[B - K]? with
      | none => rw [hc] at hB; cases hB
      | some co =>
        rw [hc] at hB
        simp only [Option.map_some, Option.some.injEq] at hB
        subst hB
        obtain ⟨D, g1, g2, g3⟩ := hobs _ _ hc
        refine ⟨hr.1, D, by unfold renOf; rw [if_neg (by omega)]; exact g1, ?_⟩
        cases co with
        | cells l e =>
          cases hm : h.m.get D with
          | none => rw [hm] at g3; simp [coB] at g3
          | some ob =>
            rw [hm] at g3
            cases ob with
            | cells c n' f =>
              simp only [coB, Bool.and_eq_true] at g3
              have e1 := Nat.eq_of_beq_eq_true g3.1
              have e2 := Nat.eq_of_beq_eq_true g3.2.1
              subst e1; subst e2
              refine .inl ⟨_, _, _, c, rfl, rfl, fun i u hi hu => ?_⟩
              have hlt : l.length < 1000000 := by have := g3.2.2.1; simp only [Nat.blt] at this; exact Nat.le_of_ble_eq_true this
              rw [rowT_get 20 l i (by omega)] at hu
              obtain ⟨v, k1, k2⟩ := rowB_spec l 0 g3.2.2.2 i u hu
              exact ⟨v, by simpa using k1, k2⟩
            | map es k => simp [coB] at g3
            | dead => simp [coB] at g3
        | map es k =>
          cases hm : h.m.get D with
          | none => rw [hm] at g3; simp [coB] at g3
          | some ob =>
            rw [hm] at g3
            cases ob with
            | cells c n' f => simp [coB] at g3
            | map fs j =>
              simp only [coB, Bool.and_eq_true] at g3
              have e1 := Nat.eq_of_beq_eq_true g3.1
              subst e1
              exact .inr ⟨_, _, fs, rfl, rfl, g3.2⟩
            | dead => simp [coB] at g3
    · simp at hB
  · intro B D hD
    unfold renOf at hD
    split at hD
    · cases hD
    · rename_i hB
      have hlt := (List.getElem?_eq_some_iff.1 hD).1
      exact ⟨by show B < K + s.obs.length; omega, hge D (List.mem_of_getElem? hD)⟩
  · intro B B' D hD hD'
    unfold renOf at hD hD'
    split at hD
    · cases hD
    · split at hD'
      · cases hD'
      · have := distinctB_spec rl h2 _ _ _ hD hD'
        omega
  · rcases env_fold _ _ t u ht with h5 | h5
    · obtain ⟨v, k1, k2⟩ := envB_spec _ h4 t u h5
      obtain ⟨v', k3, k4⟩ := E.get t v (L.1 t v k1)
      exact ⟨v', k3, renB_ok _ _ _ k2 k4⟩
    · simp at h5
theorem sub_ok {s : CS} {rl : List Nat} {e : E3} {n : Nat} {p : PT Value} {G : Nat → Bool} {tmps : Array Value} (R : Rel P W K J φ h w) (E : ER φ n p tmps) (L : LeE G e p) (hs : subB K s rl e h = true) :
    ∃ ψ, (∀ B, B < K → ψ B = φ B) ∧ Rel P W K J ψ (heapC K s) w ∧ ER ψ n (envC s) tmps := by
  obtain ⟨ψ, rfl, h1, h2⟩ := sub_ok' R E L hs
  exact ⟨_, fun B hB => by unfold renM; rw [if_pos hB], h1, h2⟩
end
end Go.Ab
