/- The abstract evaluator: calls whose outcome is known ahead: laws without addresses in what they give, and calls done once for all. -/
import Derived.Test.YtcfmeiejfofgpaaGreatDoorAbQ
namespace Go.Ab
open Go.RowKit
set_option linter.unusedVariables false
set_option linter.unusedSectionVars false
variable [Sg]

section
variable {P : Program} {W : World} {K : Nat} {J : Nat → Option Obj} {φ : Map} {h : AHeap} {w : World}

theorem Rel.obj_lt (R : Rel P W K J φ h w) {B : Nat} {o : AObj} (hB : h.m.get B = some o) (hl : o.live = true) : ∃ x, φ B = some x ∧ x.b < w.heap.size := by
  obtain ⟨x, hx, _⟩ := R.obj B o hB
  exact ⟨x, hx, R.live_lt hB hl hx⟩

theorem ObjR.later {φ : Map} {x : At} {w w' : World} {own : Bool} {o : AObj} (r : ObjR φ x w own o) (h : o.live = true → w'.heap[x.b]? = w.heap[x.b]?) : ObjR φ x w' own o := by
  cases o with
  | dead => trivial
  | map es clock => obtain ⟨es', k1, k2⟩ := r; exact ⟨es', by rw [h rfl]; exact k1, k2⟩
  | cells c n e => obtain ⟨C, f, E, k1, k⟩ := r; exact ⟨C, f, E, by rw [h rfl]; exact k1, k⟩

theorem ObjR.mono {φ ψ : Map} (hle : φ.le ψ) {x : At} {w : World} {own : Bool} {o : AObj} (r : ObjR φ x w own o) : ObjR ψ x w own o := by
  cases o with
  | dead => trivial
  | map es clock => obtain ⟨es', k1, k2⟩ := r; exact ⟨es', k1, k2.mono hle⟩
  | cells c n e =>
    obtain ⟨C, f, E, k1, k0, k2, k3, k4⟩ := r
    exact ⟨C, f, E, k1, k0, k2, k3, fun i v hi hv => by obtain ⟨v', h5, h6⟩ := k4 i v hi hv; exact ⟨v', h5, h6.mono hle⟩⟩
theorem ObjR.own {φ : Map} {x : At} {w : World} {own : Bool} {c : PT Value} {n : Nat} {e : TypeId} (r : ObjR φ x w true (.cells c n e)) : ObjR φ x w own (.cells c n e) := by
  obtain ⟨C, f, E, k1, k0, k⟩ := r
  exact ⟨C, f, E, k1, fun _ => k0 rfl, k⟩
theorem Below.wsize {W w : World} (h : Below W.heap.size W w) : W.heap.size ≤ w.heap.size := h.size

/-- What was there stays, whatever a call made besides. -/
theorem Rel.later (R : Rel P W K J φ h w) {w' : World} (b : Below w.heap.size w w') : Rel P W K J φ h w' := by
  have hb : Below W.heap.size W w' := R.below.trans (b.mono R.below.size)
  refine ⟨hb, fun B o e => ?_, R.dom, R.inj, R.old, R.fix, fun B x h1 h2 => Nat.lt_of_lt_of_le (R.size B x h1 h2) b.size, R.self, R.ro, fun k O hk => ?_, R.es⟩
  · obtain ⟨x, hx, ho⟩ := R.obj B o e
    exact ⟨x, hx, ho.later fun hl => b.block _ (R.live_lt e hl hx)⟩
  · obtain ⟨h1, h2⟩ := R.junk k O hk
    refine ⟨?_, h2⟩
    have : k < w.heap.size := by
      rcases Nat.lt_or_ge k w.heap.size with h | h
      · exact h
      · rw [Array.getElem?_eq_none h] at h1; cases h1
    rw [b.block k this]; exact h1

/-- A law that holds wherever it is asked. -/
def Always (P : Program) (K : Nat) (gl : List (Nat × List Value)) (f : FuncId) (args' : List Value) (r' : Value) : Prop := ∀ w : World, Told w K gl → Calls P f args'.toArray w fun en w' => en = .returned r' ∧ Below w.heap.size w w'
theorem Told.later {W w : World} {gl : List (Nat × List Value)} (t : Told W K gl) (b : Below W.heap.size W w) : Told w K gl := by
  intro g l hm
  obtain ⟨h1, h2, ⟨C, E, f, h3⟩, h4⟩ := t g l hm
  have hg : g < W.heap.size := by
    rcases Nat.lt_or_ge g W.heap.size with h | h
    · exact h
    · rw [Array.getElem?_eq_none h] at h3; cases h3
  exact ⟨h1, h2, ⟨C, E, f, by rw [b.block g hg]; exact h3⟩, fun i v hv => by rw [b.cell (p := ⟨g, i, none⟩) hg]; exact h4 i v hv⟩

theorem Always.orc {gl : List (Nat × List Value)} {f : FuncId} {args' : List Value} {r r' : Value} (h : Always P K gl f args' r') (hT : Told W K gl) {hh : AHeap} (R : Rel P W K J φ hh w) (hr : VR φ r r') :
    Calls P f args'.toArray w fun en w' => ∃ ψ v, φ.le ψ ∧ en = .returned v ∧ VR ψ r v ∧ Rel P W K J ψ hh w' := by
  refine (h w (hT.later R.below)).mono fun en w' ⟨h1, h2⟩ => ⟨φ, r', φ.le_refl, h1, hr, R.later h2⟩

/-! ### A call done once for all -/
/-- A value that says the same wherever the own blocks lie. -/
def plainV (K : Nat) (v : Value) : Bool := isSy v || kok K v
theorem plainV_VR {v v' : Value} {φ ψ : Map} (hv : plainV K v = true) (R : Rel P W K J φ h w) (self : ∀ B, B < K → ∃ cs es, ψ B = some ⟨B, 0, es, cs, false⟩) (r : VR φ v v') : VR ψ v v' := by
  simp only [plainV, Bool.or_eq_true] at hv
  rcases hv with hv | hv
  · exact .of_sy (r.sy (isSy_or hv))
  · have := kok_eq R hv r
    subst this
    exact kok_VR' self hv

def tops (K : Nat) : Nat → Value → List Nat
  | _, .pointer (some a) | _, .slice (some a) _ _ => if K ≤ a.block then [a.block] else []
  | n + 1, .iface _ v => tops K n v
  | n + 1, .agg c => c.toList.flatMap (tops K n)
  | n + 1, .tuple c => c.toList.flatMap (tops K n)
  | _, _ => []
def shV (K δ : Nat) : Nat → Value → Option Value
  | _, .pointer (some a) => some (.pointer (some (if a.block < K then a else ⟨a.block + δ, a.off, a.spot⟩)))
  | _, .slice (some a) l c => some (.slice (some (if a.block < K then a else ⟨a.block + δ, a.off, a.spot⟩)) l c)
  | n + 1, .iface t v => match shV K δ n v with
    | some u => some (.iface t u)
    | none => none
  | n + 1, .agg c => match c.toList.mapM (shV K δ n) with
    | some l => some (.agg l.toArray)
    | none => none
  | n + 1, .tuple c => match c.toList.mapM (shV K δ n) with
    | some l => some (.tuple l.toArray)
    | none => none
  | _, v => if isSy v = true then some v else none
theorem shV_VR {K δ : Nat} {φ ψ : Map} (hlt : ∀ B x, B < K → φ B = some x → ∃ y, ψ B = some y ∧ y.b = x.b ∧ y.d = x.d ∧ x.grow = false) (hge : ∀ B x, K ≤ B → φ B = some x → ψ (B + δ) = some x) :
    ∀ (n : Nat) (v v' u : Value), VR φ v v' → shV K δ n v = some u → VR ψ u v' := by
  have ptr : ∀ (a : Addr) (v' u : Value), VR φ (.pointer (some a)) v' → some (Value.pointer (some (if a.block < K then a else ⟨a.block + δ, a.off, a.spot⟩))) = some u → VR ψ u v' := by
    intro a v' u r e
    cases e
    obtain ⟨x, hx, hs, rfl⟩ := r.ptr_inv
    by_cases hB : a.block < K
    · obtain ⟨y, hy, h1, h2, _⟩ := hlt _ _ hB hx
      rw [if_pos hB, ← h1, ← h2]
      exact .ptr hy hs
    · rw [if_neg hB]
      exact VR.ptr (a := ⟨a.block + δ, a.off, a.spot⟩) (hge _ _ (Nat.le_of_not_lt hB) hx) hs
  have slc : ∀ (a : Addr) (l c : Nat) (v' u : Value), VR φ (.slice (some a) l c) v' → some (Value.slice (some (if a.block < K then a else ⟨a.block + δ, a.off, a.spot⟩)) l c) = some u → VR ψ u v' := by
    intro a l c v' u r e
    cases e
    obtain ⟨x, cap', o, hx, hs, h3, h4, h5, h6, rfl⟩ := r.slice_inv
    by_cases hB : a.block < K
    · obtain ⟨y, hy, h1, h2, hg⟩ := hlt _ _ hB hx
      rw [if_pos hB, ← h1]
      refine .slice hy hs h3 h4 (.inl ?_) (by rw [h2]; exact h6)
      rcases h5 with h5 | h5
      · exact h5
      · rw [hg] at h5; cases h5.1
    · rw [if_neg hB]
      exact VR.slice (a := ⟨a.block + δ, a.off, a.spot⟩) (hge _ _ (Nat.le_of_not_lt hB) hx) hs h3 h4 h5 h6
  have rest : ∀ (v v' u : Value), VR φ v v' → (if isSy v = true then some v else none) = some u → VR ψ u v' := by
    intro v v' u r e
    split at e
    · rename_i hs; cases e; exact .of_sy (r.sy (isSy_or hs))
    · cases e
  intro n
  induction n with
  | zero =>
    intro v v' u r e
    cases v with
    | pointer o => cases o with | none => exact rest _ _ _ r e | some a => exact ptr a v' u r e
    | slice o l c => cases o with | none => exact rest _ _ _ r e | some a => exact slc a l c v' u r e
    | _ => exact rest _ _ _ r e
  | succ n ih =>
    have arr : ∀ (l l' m : List Value), VRs φ l l' → l.mapM (shV K δ n) = some m → VRs ψ m l' := by
      intro l l' m r
      induction r generalizing m with
      | nil => intro e; simp at e; subst e; exact .nil
      | cons h1 _ ih2 =>
        intro e
        simp only [List.mapM_cons, Option.bind_eq_bind, Option.pure_def, Option.bind_eq_some_iff, Option.some.injEq] at e
        obtain ⟨u, hu, m', hm, rfl⟩ := e
        exact .cons (ih _ _ _ h1 hu) (ih2 _ hm)
    intro v v' u r e
    cases v with
    | pointer o => cases o with | none => exact rest _ _ _ r e | some a => exact ptr a v' u r e
    | slice o l c => cases o with | none => exact rest _ _ _ r e | some a => exact slc a l c v' u r e
    | iface t v =>
      obtain ⟨w, rfl, hw⟩ := r.iface_inv
      simp only [shV] at e
      split at e
      · rename_i u' hu; cases e; exact .iface (ih _ _ _ hw hu)
      · cases e
    | agg c =>
      obtain ⟨c', rfl, hc⟩ := r.agg_inv
      simp only [shV] at e
      split at e
      · rename_i m hm; cases e; exact .of_aggs (by simpa using arr _ _ _ hc hm)
      · cases e
    | tuple c =>
      obtain ⟨c', rfl, hc⟩ := r.tuple_inv
      simp only [shV] at e
      split at e
      · rename_i m hm; cases e; exact .of_tuples (by simpa using arr _ _ _ hc hm)
      · cases e
    | _ => exact rest _ _ _ r e

/-- The blocks that are told, at their new places. -/
def graft (K δ : Nat) (h1 : AHeap) : List Nat → PT AObj → PT AObj
  | [], m => m
  | B :: r, m => match h1.m.get B with
    | some (.cells c n e) => match c.row 0 n with
      | some l => if K ≤ B ∧ l.all (plainV K) = true then graft K δ h1 r (m.set (B + δ) (.cells c n e)) else graft K δ h1 r m
      | none => graft K δ h1 r m
    | _ => graft K δ h1 r m
theorem graft_get {K δ : Nat} {h1 : AHeap} : ∀ (l : List Nat) (m : PT AObj) (D : Nat) (o : AObj), (graft K δ h1 l m).get D = some o → m.get D = some o ∨ ∃ B c n e l, D = B + δ ∧ K ≤ B ∧ o = .cells c n e ∧ h1.m.get B = some (.cells c n e) ∧ c.row 0 n = some l ∧ l.all (plainV K) = true := by
  intro l
  induction l with
  | nil => intro m D o h; exact .inl h
  | cons B r ih =>
    intro m D o h
    simp only [graft] at h
    split at h
    · rename_i c n e hB
      split at h
      · rename_i l hl
        split at h
        · rename_i hc
          rcases ih _ _ _ h with h2 | h2
          · rw [PT.get_set] at h2
            split at h2
            · rename_i hD
              cases h2
              exact .inr ⟨B, c, n, e, l, hD.symm, hc.1, rfl, hB, hl, hc.2⟩
            · exact .inl h2
          · exact .inr h2
        · exact ih _ _ _ h
      · exact ih _ _ _ h
    · exact ih _ _ _ h
/-- What a call that was done once comes to now. -/
def memo (K : Nat) (done : Option (Value × AHeap)) (h : AHeap) : Option (Value × AHeap) :=
  match done with
  | none => none
  | some (r, h1) => if K ≤ h1.next ∧ K ≤ h.next ∧ h1.ro = K then match shV K (h.next - K) 4 r with
      | some u => some (u, { h with m := graft K (h.next - K) h1 (tops K 4 r) h.m, next := h.next + (h1.next - K) })
      | none => none
    else none

theorem memo_ok {call : ACall} (hc : CallGood P w K call) {f : FuncId} {args args' : List Value} (hp : args.all (plainV K) = true) {r : Value} {h' : AHeap}
    (he : memo K (call f args (heap0 K [])) h = some (r, h')) (R : Rel P W K J φ h w) (ha : VRs φ args args') :
    Calls P f args'.toArray w fun en w' => ∃ ψ v, φ.le ψ ∧ en = .returned v ∧ VR ψ r v ∧ Rel P W K J ψ h' w' := by
  unfold memo at he
  split at he
  · cases he
  rename_i r1 h1 hdone
  split at he
  case isFalse => cases he
  rename_i hK
  split at he
  case h_2 => cases he
  rename_i u hu
  cases he
  have R0 : Rel P w K (fun _ => none) (map0 w K) (heap0 K []) w := rel0 (fun g l hm => by cases hm)
  have ha0 : VRs (map0 w K) args args' := by
    clear hdone
    induction ha with
    | nil => exact .nil
    | cons h1 _ ih =>
      simp only [List.all_cons, Bool.and_eq_true] at hp
      exact .cons (plainV_VR hp.1 R R0.self h1) (ih hp.2)
  refine (hc f args (heap0 K []) _ _ hdone _ _ _ _ R0 ha0).mono fun en w' hh => ?_
  obtain ⟨χ, v, hχ, rfl, hv, R1⟩ := hh
  have b := R1.below
  let δ := h.next - K
  let ψ : Map := fun B => if B < h.next then φ B else χ (B - δ)
  have hle : φ.le ψ := fun B x e => by
    have := R.dom B x e
    show (if B < h.next then φ B else χ (B - δ)) = some x
    rw [if_pos this]; exact e
  have hge : ∀ B x, K ≤ B → χ B = some x → ψ (B + δ) = some x := by
    intro B x hB e
    show (if B + δ < h.next then φ (B + δ) else χ (B + δ - δ)) = some x
    rw [if_neg (by omega), Nat.add_sub_cancel]; exact e
  have hχK : ∀ B x, B < K → χ B = some x → x = ⟨B, 0, 0, gsize w B, false⟩ := by
    intro B x hB e
    have : map0 w K B = some ⟨B, 0, 0, gsize w B, false⟩ := by unfold map0; rw [if_pos hB]
    rw [hχ _ _ this] at e; cases e; rfl
  have hlt : ∀ B x, B < K → χ B = some x → ∃ y, ψ B = some y ∧ y.b = x.b ∧ y.d = x.d ∧ x.grow = false := by
    intro B x hB e
    obtain ⟨cs, es, hs⟩ := R.self B hB
    rw [hχK B x hB e]
    exact ⟨_, hle _ _ hs, rfl, rfl, rfl⟩
  have inv : ∀ D x, ψ D = some x → (D < h.next ∧ φ D = some x) ∨ (h.next ≤ D ∧ K ≤ D - δ ∧ χ (D - δ) = some x) := by
    intro D x e
    have e : (if D < h.next then φ D else χ (D - δ)) = some x := e
    split at e
    · exact .inl ⟨‹_›, e⟩
    · exact .inr ⟨by omega, by omega, e⟩
  have wsz : W.heap.size ≤ w.heap.size := R.below.size
  have newb : ∀ B x, K ≤ B → χ B = some x → w.heap.size ≤ x.b := fun B x hB e => R1.old B x e (by rw [hK.2.2]; exact hB)
  have rok : h.ro ≤ h.next := R.ro
  have selfψ : ∀ B, B < K → ∃ cs es, ψ B = some ⟨B, 0, es, cs, false⟩ := fun B hB => by
    obtain ⟨cs, es, hs⟩ := R.self B hB
    exact ⟨cs, es, hle _ _ hs⟩
  refine ⟨ψ, v, hle, rfl, shV_VR hlt hge 4 _ _ _ hv hu, ?_⟩
  have getc : ∀ D o, (graft K δ h1 (tops K 4 r1) h.m).get D = some o → (h.m.get D = some o ∧ ∃ x, φ D = some x ∧ ψ D = some x) ∨ (∃ x c n e, ψ D = some x ∧ (K ≤ D - δ ∧ δ ≤ D) ∧ χ (D - δ) = some x ∧ o = .cells c n e ∧ ObjR ψ x w' true (.cells c n e) ∧ h1.m.get (D - δ) = some o) := by
    intro D o hD
    rcases graft_get _ _ _ _ hD with h2 | ⟨B, c, n, e, l, rfl, hB, rfl, hm, hl, hall⟩
    · obtain ⟨x, hx, _⟩ := R.obj D o h2
      exact .inl ⟨h2, x, hx, hle _ _ hx⟩
    · obtain ⟨x, hx, C, f, E, k1, k0, k2, k3, k4⟩ := R1.obj B _ hm
      refine .inr ⟨x, c, n, e, hge _ _ hB hx, ⟨by omega, by omega⟩, by rw [Nat.add_sub_cancel]; exact hx, rfl, ?_, by rw [Nat.add_sub_cancel]; exact hm⟩
      refine ⟨C, f, E, k1, fun _ => k0 (by rw [hK.2.2]; exact decide_eq_true hB), k2, k3, fun i v hi hv => ?_⟩
      obtain ⟨v', k5, k6⟩ := k4 i v hi hv
      obtain ⟨hlen, hg⟩ := PT.row_spec _ _ _ _ hl
      have hlv : l[i]? = some v := by rw [← hg i hi, Nat.zero_add]; exact hv
      exact ⟨v', k5, plainV_VR (List.all_eq_true.1 hall v (List.mem_of_getElem? hlv)) R1 selfψ k6⟩
  have oldlt : ∀ D o x, h.m.get D = some o → o.live = true → φ D = some x → x.b < w.heap.size := fun D o x h1 h2 h3 => R.live_lt h1 h2 h3
  refine ⟨R.below.trans (b.mono wsz), ?_, ?_, ?_, ?_, ?_, ?_, selfψ, ?_, ?_, ?_⟩
  · intro D o hD
    rcases getc D o hD with ⟨h2, x, hx, hx'⟩ | ⟨x, c, n, e, hx, ⟨hB, _⟩, _, rfl, ho, _⟩
    · obtain ⟨y, hy, ho⟩ := R.obj D o h2
      rw [hx] at hy; cases hy
      exact ⟨x, hx', (ho.later fun hl => b.block _ (oldlt D o x h2 hl hx)).mono hle⟩
    · exact ⟨x, hx, ho.own⟩
  · intro D x e
    show D < h.next + (h1.next - K)
    rcases inv D x e with ⟨h2, _⟩ | ⟨h2, h3, h4⟩
    · omega
    · have := R1.dom _ _ h4
      omega
  · intro D E x y o p hD hE l1 l2 e1 e2 e3
    rcases getc D o hD with ⟨h2, x', hx, hx'⟩ | ⟨x', c, n, e, hx, ⟨hB, hBd⟩, hχx, rfl, ho, hm⟩
    · rw [e1] at hx'; cases hx'
      rcases getc E p hE with ⟨h4, y', hy, hy'⟩ | ⟨y', c2, n2, e4, hy, ⟨hB2, hBd2⟩, hχy, rfl, ho2, hm2⟩
      · rw [e2] at hy'; cases hy'
        exact R.inj D E x y o p h2 h4 l1 l2 hx hy e3
      · rw [e2] at hy; cases hy
        have k1 := oldlt D o x h2 l1 hx
        have k2 := newb _ _ hB2 hχy
        omega
    · rw [e1] at hx; cases hx
      rcases getc E p hE with ⟨h4, y', hy, hy'⟩ | ⟨y', c2, n2, e4, hy, ⟨hB2, hBd2⟩, hχy, rfl, ho2, hm2⟩
      · rw [e2] at hy'; cases hy'
        have k1 := oldlt E p y h4 l2 hy
        have k2 := newb _ _ hB hχx
        omega
      · rw [e2] at hy; cases hy
        have := R1.inj _ _ x y _ _ hm hm2 rfl rfl hχx hχy e3
        omega
  · intro D x e hro
    rcases inv D x e with ⟨_, h3⟩ | ⟨_, h3, h4⟩
    · exact R.old D x h3 hro
    · exact Nat.le_trans wsz (newb _ _ h3 h4)
  · intro D x e hro
    rcases inv D x e with ⟨_, h3⟩ | ⟨h2, h3, h4⟩
    · exact R.fix D x h3 hro
    · exact absurd hro (by show ¬ D < h.ro; omega)
  · intro D x e hKD
    rcases inv D x e with ⟨_, h3⟩ | ⟨h2, h3, h4⟩
    · exact Nat.lt_of_lt_of_le (R.size D x h3 hKD) b.size
    · exact R1.size _ x h4 h3
  · show h.ro ≤ h.next + (h1.next - K)
    omega
  · intro k O hk
    obtain ⟨g1, g2⟩ := R.junk k O hk
    have hkl : k < w.heap.size := by
      rcases Nat.lt_or_ge k w.heap.size with h | h
      · exact h
      · rw [Array.getElem?_eq_none h] at g1; cases g1
    refine ⟨by rw [b.block k hkl]; exact g1, fun D x e => ?_⟩
    rcases inv D x e with ⟨_, h3⟩ | ⟨h2, h3, h4⟩
    · exact g2 D x h3
    · have := newb _ _ h3 h4
      omega
  · intro D x c n E e hg hD
    rcases getc D _ hD with ⟨h2, y, hy, hy'⟩ | ⟨y, c2, n2, e2, hy, ⟨hB, _⟩, hχx, ho, _, hm⟩
    · rw [e] at hy'; cases hy'
      exact R.es D x c n E hy hg h2
    · rw [e] at hy; cases hy
      exact R1.es _ x c n E hχx hg hm

end
end Go.Ab
