/- The abstract evaluator: a loop done in parts, from told state to told state; functions with such a loop. -/
import Derived.Test.YtcfmeiejfofgpaaGreatDoorAbW
namespace Go.Ab
open Go.RowKit
set_option linter.unusedVariables false
set_option linter.unusedSectionVars false
set_option linter.unusedSimpArgs false

noncomputable section
variable [Sg] {P : Program} {W : World} {K : Nat} {J : Nat → Option Obj} {X : Ext} {call : FuncId → CallC} {callA : ACall}

/-- A loop's body so many times, then something else. -/
def iterK (f : E3 → AHeap → (E3 → AHeap → OutK) → OutK) (m : Nat) : E3 → AHeap → (E3 → AHeap → OutK) → OutK :=
  @Nat.rec (fun _ => E3 → AHeap → (E3 → AHeap → OutK) → OutK) (fun e h k => k e h) (fun _ ih e h k => f e h fun e h => ih e h k) m
/-- A loop at its head comes to Q. -/
def LoopWp (P : Program) (c : Code) (Q : Exit → Act → World → Prop) (a : Act) (w : World) : Prop := ∀ b k cs, ∃ y a' w', Q y a' w' ∧ Arrives P (lone (b.at a (.code c :: .inLoop c :: k)) cs w) b k cs y a' w'
theorem wp_loopWp {c : Code} {Q : Exit → Act → World → Prop} {a : Act} {w : World} (h : LoopWp P c Q a w) : (Code.loop c).wp P Q a w := by
  intro b k cs
  obtain ⟨y, a', w', hq, harr⟩ := h b k cs
  exact ⟨y, a', w', hq, .of_steps (.one step_loop) harr⟩
/-- Of the model's state an abstract one is told. -/
structure St (P : Program) (W : World) (K : Nat) (J : Nat → Option Obj) (φ0 : Map) (n : Nat) (p : PT Value) (h : AHeap) (a : Act) (w : World) : Prop where
  ex : ∃ φ, (∀ B, B < K → φ B = φ0 B) ∧ Rel P W K J φ h w ∧ ER φ n p a.tmps
  defers : a.defers = []
theorem St.of_post {φ0 φ : Map} {n : Nat} {x y : Exit} {p : PT Value} {h : AHeap} {a : Act} {w : World} (hag : ∀ B, B < K → φ B = φ0 B) (hself : ∀ B, B < K → ∃ z, φ B = some z) (hp : Post P W K J φ n x p h y a w) : y = x ∧ St P W K J φ0 n p h a w := by
  obtain ⟨h1, h2, ψ, h3, h4, h5⟩ := hp
  refine ⟨h1, ⟨ψ, fun B hB => ?_, h4, h5⟩, h2⟩
  obtain ⟨z, hz⟩ := hself B hB
  rw [← hag B hB, hz, h3 B z hz]
theorem St.self {φ0 : Map} {φ : Map} {h : AHeap} {w : World} (R : Rel P W K J φ h w) : ∀ B, B < K → ∃ z, φ B = some z := fun B hB => by obtain ⟨cs, es, e⟩ := R.self B hB; exact ⟨_, e⟩

theorem iterK_ok (hX : ExtOk P W K X) (hN : NamesOk P) (hcA : CallGood P W K callA) (hm : P.follows .mixedOrders = true) {G : Nat → Bool} {L n : Nat} {c : Code} (hok : codeOk n c = true) {f : E3 → AHeap → (E3 → AHeap → OutK) → OutK} (hf : CodeOk P K X callA G L c f) {φ0 : Map} {Q : Exit → Act → World → Prop} :
    ∀ (m : Nat) (e : E3) (h : AHeap) (k : E3 → AHeap → OutK) (r : Res) (p : PT Value), iterK f m e h k = some r → r.1 = .normal → LeE G e p →
      ∃ e' p' h', k e' h' = some r ∧ LeE G e' p' ∧ ((∀ a w, St P W K J φ0 n p' h' a w → LoopWp P c Q a w) → ∀ a w, St P W K J φ0 n p h a w → LoopWp P c Q a w) := by
  intro m
  induction m with
  | zero => intro e h k r p hr hn hp; exact ⟨e, p, h, hr, hp, fun hq => hq⟩
  | succ m ih =>
    intro e h k r p hr hn hp
    rcases hf e h _ r p hr hp with ⟨e1, p1, h1, g1, g2, g3⟩ | ⟨x, e1, p1, h1, g1, g2, g3, rfl⟩
    · obtain ⟨e', p', h', k1, k2, k3⟩ := ih e1 h1 k r p1 g3 hn g2
      refine ⟨e', p', h', k1, k2, fun hq a w hst b kk cs => ?_⟩
      obtain ⟨⟨φ, hag, R, E⟩, hdf⟩ := hst
      obtain ⟨y, a1, w1, hp1, harr⟩ := evalC_ok (J := J) hX hN hcA hm c hok φ p h a w _ _ _ g1 R E hdf b (.inLoop c :: kk) cs
      obtain ⟨rfl, hst1⟩ := St.of_post hag (St.self (φ0 := φ0) R) hp1
      obtain ⟨y2, a2, w2, hq2, harr2⟩ := k3 hq a1 w1 hst1 b kk cs
      exact ⟨y2, a2, w2, hq2, .of_steps (Steps.trans harr (.one step_inLoop)) harr2⟩
    · exact absurd hn g2

/-! ### Told states -/
def e3C (s : CS) : E3 := s.env.foldl (fun e p => upd3 e p.1 p.2) none3
theorem e3C_le {G : Nat → Bool} {s : CS} (h : s.env.all (fun p => G p.1 && Nat.blt p.1 512) = true) : LeE G (e3C s) (envC s) := by
  have key : ∀ (l : List (Nat × Value)) (e : E3) (p : PT Value), l.all (fun p => G p.1 && Nat.blt p.1 512) = true → LeE G e p → LeE G (l.foldl (fun e p => upd3 e p.1 p.2) e) (l.foldl (fun t p => t.set p.1 p.2) p) := by
    intro l
    induction l with
    | nil => intro e p _ hp; exact hp
    | cons x l ih =>
      intro e p hl hp
      simp only [List.all_cons, Bool.and_eq_true] at hl
      have hlt : x.1 < 512 := by have := hl.1.2; simp only [Nat.blt] at this; exact Nat.le_of_ble_eq_true this
      exact ih _ _ hl.2 (hp.put hlt hl.1.1 x.2)
  exact key s.env none3 .nil h (none3_le G)
/-- Where a told block's name is found in a state. -/
inductive Path where
  | env (t : Nat)
  | cell (i o : Nat)
  | res (j : Nat)
def nameOf : Value → Option Nat
  | .pointer (some a) => some a.block
  | .slice (some a) _ _ => some a.block
  | .map (some r) => some r
  | _ => none
def pathN (vs : List Value) (e : E3) (h : AHeap) (rl : List Nat) : Path → Nat
  | .res j => ((vs[j]?).bind nameOf).getD 0
  | .env t => ((lkd e t).bind nameOf).getD 0
  | .cell i o => match rl[i]? with
    | some B => match fget h.m B with
      | some (.cells c _ _) => ((fget c o).bind nameOf).getD 0
      | _ => 0
    | none => 0
def pathsN (vs : List Value) (e : E3) (h : AHeap) : List Path → List Nat → List Nat
  | [], rl => rl
  | q :: r, rl => pathsN vs e h r (rl ++ [pathN vs e h rl q])
def okN (o : OutK) : Bool := match o with
  | some (.normal, _, _) => true
  | _ => false
/-- From one told state, by so many rounds, to another. -/
def chunkB (K : Nat) (G : Nat → Bool) (f : E3 → AHeap → (E3 → AHeap → OutK) → OutK) (ps : List Path) (s : CS) (m : Nat) (s' : CS) : Bool :=
  (s.env.all fun p => G p.1 && Nat.blt p.1 512) && okN (iterK f m (e3C s) (heapC K s) fun e h => cd (subB K s' (pathsN [] e h ps []) e h) (some (.normal, e, h)) none)
theorem chunk_ok (hX : ExtOk P W K X) (hN : NamesOk P) (hcA : CallGood P W K callA) (hm : P.follows .mixedOrders = true) {G : Nat → Bool} {L n : Nat} {c : Code} (hok : codeOk n c = true) {f : E3 → AHeap → (E3 → AHeap → OutK) → OutK} (hf : CodeOk P K X callA G L c f) {φ0 : Map} {Q : Exit → Act → World → Prop}
    {ps : List Path} {s s' : CS} {m : Nat} (hb : chunkB K G f ps s m s' = true) (hq : ∀ a w, St P W K J φ0 n (envC s') (heapC K s') a w → LoopWp P c Q a w) : ∀ a w, St P W K J φ0 n (envC s) (heapC K s) a w → LoopWp P c Q a w := by
  simp only [chunkB, Bool.and_eq_true] at hb
  obtain ⟨h1, h2⟩ := hb
  unfold okN at h2
  split at h2
  case h_2 => cases h2
  rename_i e0 h0 hr
  obtain ⟨e', p', h', k1, k2, k3⟩ := iterK_ok (J := J) (Q := Q) (φ0 := φ0) hX hN hcA hm hok hf m _ _ _ _ _ hr rfl (e3C_le h1)
  refine k3 fun a w hst => hq a w ?_
  obtain ⟨⟨φ, hag, R, E⟩, hdf⟩ := hst
  cases hs : subB K s' (pathsN [] e' h' ps []) e' h' with
  | false => rw [hs] at k1; cases k1
  | true =>
    obtain ⟨ψ, g1, g2, g3⟩ := sub_ok R E k2 hs
    exact ⟨⟨ψ, fun B hB => by rw [g1 B hB, hag B hB], g2, g3⟩, hdf⟩
/-- From a told state the code comes to another. -/
def reachB (K : Nat) (G : Nat → Bool) (f : E3 → AHeap → (E3 → AHeap → OutK) → OutK) (ps : List Path) (s : CS) (s' : CS) : Bool := chunkB K G f ps s 1 s'
theorem reach_ok (hX : ExtOk P W K X) (hN : NamesOk P) (hcA : CallGood P W K callA) (hm : P.follows .mixedOrders = true) {G : Nat → Bool} {L n : Nat} {c : Code} (hok : codeOk n c = true) {f : E3 → AHeap → (E3 → AHeap → OutK) → OutK} (hf : CodeOk P K X callA G L c f) {φ0 : Map} {Q : Exit → Act → World → Prop}
    {ps : List Path} {s s' : CS} (hb : reachB K G f ps s s' = true) (hq : ∀ a w, St P W K J φ0 n (envC s') (heapC K s') a w → Q .normal a w) : ∀ a w, St P W K J φ0 n (envC s) (heapC K s) a w → c.wp P Q a w := by
  simp only [reachB, chunkB, Bool.and_eq_true] at hb
  obtain ⟨h1, h2⟩ := hb
  unfold okN at h2
  split at h2
  case h_2 => cases h2
  rename_i e0 h0 hr
  intro a w hst
  have hr : f (e3C s) (heapC K s) (fun e h => cd (subB K s' (pathsN [] e h ps []) e h) (some (.normal, e, h)) none) = some (.normal, e0, h0) := hr
  obtain ⟨⟨φ, hag, R, E⟩, hdf⟩ := hst
  rcases hf _ _ _ _ _ hr (e3C_le h1) with ⟨e1, p1, h1', g1, g2, g3⟩ | ⟨x, e1, p1, h1', g1, g2, g3, g4⟩
  · refine wp_mono (evalC_ok (J := J) hX hN hcA hm c hok φ _ _ a w _ _ _ g1 R E hdf) fun y a' w' hp => ?_
    obtain ⟨rfl, ⟨ψ, hag', R', E'⟩, hdf'⟩ := St.of_post hag (St.self (φ0 := φ0) R) hp
    refine hq a' w' ?_
    cases hs : subB K s' (pathsN [] e1 h1' ps []) e1 h1' with
    | false => rw [hs] at g3; cases g3
    | true =>
      obtain ⟨χ, k1, k2, k3⟩ := sub_ok R' E' g2 hs
      exact ⟨⟨χ, fun B hB => by rw [k1 B hB, hag' B hB], k2, k3⟩, hdf'⟩
  · cases g4; exact absurd rfl g2
/-- .. by the loop's exit. -/
def leaveB (K : Nat) (G : Nat → Bool) (f : E3 → AHeap → (E3 → AHeap → OutK) → OutK) (L id : Nat) (ps : List Path) (s : CS) (s' : CS) : Bool :=
  (s.env.all fun p => G p.1 && Nat.blt p.1 512) && match loopK f L (e3C s) (heapC K s) with
    | some (.exit j, e, h) => Nat.beq j id && subB K s' (pathsN [] e h ps []) e h
    | _ => false
theorem leave_ok (hX : ExtOk P W K X) (hN : NamesOk P) (hcA : CallGood P W K callA) (hm : P.follows .mixedOrders = true) {G : Nat → Bool} {L n id : Nat} {c : Code} (hok : codeOk n c = true) {f : E3 → AHeap → (E3 → AHeap → OutK) → OutK} (hf : CodeOk P K X callA G L c f) {φ0 : Map} {Q : Exit → Act → World → Prop} {L' : Nat}
    {ps : List Path} {s s' : CS} (hb : leaveB K G f L' id ps s s' = true) (hq : ∀ a w, St P W K J φ0 n (envC s') (heapC K s') a w → Q (.exit id) a w) : ∀ a w, St P W K J φ0 n (envC s) (heapC K s) a w → LoopWp P c Q a w := by
  simp only [leaveB, Bool.and_eq_true] at hb
  obtain ⟨h1, h2⟩ := hb
  split at h2
  case h_2 => cases h2
  rename_i j e1 h1' hr
  simp only [Bool.and_eq_true] at h2
  have hj := Nat.eq_of_beq_eq_true h2.1
  subst hj
  obtain ⟨x, e2, p2, h2', k1, k2, k3, k4⟩ := loopK_ok hf L' _ _ _ _ hr (e3C_le h1)
  cases k4
  intro a w hst b k cs
  obtain ⟨⟨φ, hag, R, E⟩, hdf⟩ := hst
  obtain ⟨y, a', w', hp, harr⟩ := iter_ok (c := c) (n := n) (J := J) (W := W) (fun φ e h a w x e' h' => evalC_ok hX hN hcA hm c hok φ e h a w x e' h') L' φ _ _ a w _ _ _ k1 R E hdf b k cs
  obtain ⟨rfl, ⟨ψ, hag', R', E'⟩, hdf'⟩ := St.of_post hag (St.self (φ0 := φ0) R) hp
  refine ⟨_, a', w', hq a' w' ?_, harr⟩
  obtain ⟨χ, g1, g2, g3⟩ := sub_ok R' E' k3 h2.2
  exact ⟨⟨χ, fun B hB => by rw [g1 B hB, hag' B hB], g2, g3⟩, hdf'⟩

/-! ### A function with such a loop -/
def flatC : Code → List Code
  | .seq a b => flatC a ++ flatC b
  | c => [c]
def seqOf : List Code → Code
  | [] => .skip
  | c :: r => .seq c (seqOf r)
def wpL (P : Program) (Q : Exit → Act → World → Prop) : List Code → Act → World → Prop
  | [] => Q .normal
  | c :: r => c.wp P (Exit.then (wpL P Q r) Q)
theorem wpL_append {Q : Exit → Act → World → Prop} : ∀ (l m : List Code) (a : Act) (w : World), wpL P Q (l ++ m) a w → wpL P (Exit.then (wpL P Q m) Q) l a w
  | [], m, a, w, h => h
  | c :: l, m, a, w, h => by
    refine wp_mono (show c.wp P (Exit.then (wpL P Q (l ++ m)) Q) a w from h) fun y a' w' hy => ?_
    cases y with
    | normal => exact wpL_append l m a' w' hy
    | _ => exact hy
theorem wpL_mono {Q Q' : Exit → Act → World → Prop} (hq : ∀ y a w, Q y a w → Q' y a w) : ∀ (l : List Code) (a : Act) (w : World), wpL P Q l a w → wpL P Q' l a w
  | [], a, w, h => hq _ _ _ h
  | c :: l, a, w, h => by
    refine wp_mono (show c.wp P (Exit.then (wpL P Q l) Q) a w from h) fun y a' w' hy => ?_
    cases y with
    | normal => exact wpL_mono hq l a' w' hy
    | _ => exact hq _ _ _ hy
theorem wp_flat : ∀ (c : Code) (Q : Exit → Act → World → Prop) (a : Act) (w : World), wpL P Q (flatC c) a w → c.wp P Q a w := by
  intro c
  have one : ∀ (c : Code) (Q : Exit → Act → World → Prop) (a : Act) (w : World), wpL P Q [c] a w → c.wp P Q a w := by
    intro c Q a w h
    refine wp_mono (show c.wp P (Exit.then (Q .normal) Q) a w from h) fun y a' w' hy => ?_
    cases y <;> exact hy
  induction c with
  | seq x y ih1 ih2 =>
    intro Q a w h
    refine wp_seq (ih1 _ a w ?_)
    refine wpL_mono (fun z a' w' hz => ?_) _ _ _ (wpL_append (flatC x) (flatC y) a w h)
    cases z with
    | normal => exact ih2 Q a' w' hz
    | _ => exact hz
  | _ => intro Q a w h; exact one _ Q a w h
theorem wpL_of_append {Q : Exit → Act → World → Prop} : ∀ (l m : List Code) (a : Act) (w : World), wpL P (Exit.then (wpL P Q m) Q) l a w → wpL P Q (l ++ m) a w
  | [], m, a, w, h => h
  | c :: l, m, a, w, h => by
    refine wp_mono (show c.wp P (Exit.then (wpL P (Exit.then (wpL P Q m) Q) l) (Exit.then (wpL P Q m) Q)) a w from h) fun y a' w' hy => ?_
    cases y with
    | normal => exact wpL_of_append l m a' w' hy
    | _ => exact hy
theorem evalL_ok (hX : ExtOk P W K X) (hN : NamesOk P) (hcA : CallGood P W K callA) (hm : P.follows .mixedOrders = true) {L n : Nat} : ∀ (l : List Code), (∀ c ∈ l, codeOk n c = true) → ∀ (φ : Map) (p : PT Value) (h : AHeap) (a : Act) (w : World) (x : Exit) (p' : PT Value) (h' : AHeap), evalC P K X callA L (seqOf l) p h = some (x, p', h') →
    Rel P W K J φ h w → ER φ n p a.tmps → a.defers = [] → wpL P (Post P W K J φ n x p' h') l a w := by
  intro l
  induction l with
  | nil => intro _ φ p h a w x p' h' he R E hdf; simp only [seqOf, evalC] at he; cases he; exact ⟨rfl, hdf, φ, φ.le_refl, R, E⟩
  | cons c l ih =>
    intro hok φ p h a w x p' h' he R E hdf
    simp only [seqOf, evalC] at he
    show c.wp P (Exit.then (wpL P (Post P W K J φ n x p' h') l) (Post P W K J φ n x p' h')) a w
    split at he
    · rename_i p1 h1 hh
      refine wp_mono (evalC_ok (J := J) hX hN hcA hm c (hok c (List.mem_cons_self ..)) φ p h a w _ _ _ hh R E hdf) ?_
      rintro y a1 w1 ⟨rfl, hdf1, ψ, hle, R1, E1⟩
      exact wpL_mono (fun y a2 w2 hp => hp.mono hle) _ _ _ (ih (fun c hc => hok c (List.mem_cons_of_mem _ hc)) ψ p1 h1 a1 w1 _ _ _ he R1 E1 hdf1)
    · rename_i hne
      refine wp_mono (evalC_ok (J := J) hX hN hcA hm c (hok c (List.mem_cons_self ..)) φ p h a w _ _ _ he R E hdf) ?_
      rintro y a1 w1 hp
      obtain ⟨rfl, hp2⟩ := hp
      cases y with
      | normal => exact absurd he (hne p' h')
      | _ => exact ⟨rfl, hp2⟩
theorem reachL_ok (hX : ExtOk P W K X) (hN : NamesOk P) (hcA : CallGood P W K callA) (hm : P.follows .mixedOrders = true) {G : Nat → Bool} {L n : Nat} {l : List Code} (hok : ∀ c ∈ l, codeOk n c = true) {f : E3 → AHeap → (E3 → AHeap → OutK) → OutK} (hf : CodeOk P K X callA G L (seqOf l) f) {φ0 : Map} {Q : Exit → Act → World → Prop}
    {ps : List Path} {s s' : CS} (hb : reachB K G f ps s s' = true) (hq : ∀ a w, St P W K J φ0 n (envC s') (heapC K s') a w → Q .normal a w) : ∀ a w, St P W K J φ0 n (envC s) (heapC K s) a w → wpL P Q l a w := by
  simp only [reachB, chunkB, Bool.and_eq_true] at hb
  obtain ⟨h1, h2⟩ := hb
  unfold okN at h2
  split at h2
  case h_2 => cases h2
  rename_i e0 h0 hr
  intro a w hst
  have hr : f (e3C s) (heapC K s) (fun e h => cd (subB K s' (pathsN [] e h ps []) e h) (some (.normal, e, h)) none) = some (.normal, e0, h0) := hr
  obtain ⟨⟨φ, hag, R, E⟩, hdf⟩ := hst
  rcases hf _ _ _ _ _ hr (e3C_le h1) with ⟨e1, p1, h1', g1, g2, g3⟩ | ⟨x, e1, p1, h1', g1, g2, g3, g4⟩
  · refine wpL_mono (fun y a' w' hp => ?_) _ _ _ (evalL_ok (J := J) hX hN hcA hm l hok φ _ _ a w _ _ _ g1 R E hdf)
    obtain ⟨rfl, ⟨ψ, hag', R', E'⟩, hdf'⟩ := St.of_post hag (St.self (φ0 := φ0) R) hp
    refine hq a' w' ?_
    cases hs : subB K s' (pathsN [] e1 h1' ps []) e1 h1' with
    | false => rw [hs] at g3; cases g3
    | true =>
      obtain ⟨χ, k1, k2, k3⟩ := sub_ok R' E' g2 hs
      exact ⟨⟨χ, fun B hB => by rw [k1 B hB, hag' B hB], k2, k3⟩, hdf'⟩
  · cases g4; exact absurd rfl g2
def endsB (x : Exit) : Bool := match x with
  | .normal | .ret => true
  | _ => false
/-- From a told state to the function's end: what it gives, and what is left. -/
def finB (P : Program) (K : Nat) (G : Nat → Bool) (f : E3 → AHeap → (E3 → AHeap → OutK) → OutK) (rs : List ResultVar) (ps : List Path) (s : CS) (u : Value) (s' : CS) : Bool :=
  (s.env.all fun p => G p.1 && Nat.blt p.1 512) && match f (e3C s) (heapC K s) (fun e h => some (.normal, e, h)) with
    | some (x, e, h) => endsB x && match (resC P rs).run e h with
      | some vs => let rl := pathsN vs e h ps []
        subB K s' rl e h && renB K (renOf K rl) u (resVal vs)
      | none => false
    | none => false
theorem finL_ok (hX : ExtOk P W K X) (hN : NamesOk P) (hcA : CallGood P W K callA) (hm : P.follows .mixedOrders = true) {G : Nat → Bool} {L : Nat} {fn : Func} {l : List Code} (hok : ∀ c ∈ l, codeOk fn.ntmps c = true) {f : E3 → AHeap → (E3 → AHeap → OutK) → OutK} (hf : CodeOk P K X callA G L (seqOf l) f) {φ0 : Map}
    {ps : List Path} {s s' : CS} {u : Value} (hb : finB P K G f fn.results.toList ps s u s' = true) : ∀ a w, St P W K J φ0 fn.ntmps (envC s) (heapC K s) a w →
    wpL P (bodyPost P fn fun en w' => ∃ ψ r', (∀ B, B < K → ψ B = φ0 B) ∧ en = .returned r' ∧ VR ψ u r' ∧ Rel P W K J ψ (heapC K s') w') l a w := by
  simp only [finB, Bool.and_eq_true] at hb
  obtain ⟨h1, h2⟩ := hb
  split at h2
  case h_2 => cases h2
  rename_i x e h hr
  simp only [Bool.and_eq_true] at h2
  obtain ⟨hx, h2⟩ := h2
  split at h2
  case h_2 => cases h2
  rename_i vs hvs
  simp only [Bool.and_eq_true] at h2
  obtain ⟨hsub, hren⟩ := h2
  intro a w hst
  obtain ⟨⟨φ, hag, R, E⟩, hdf⟩ := hst
  have fin : ∀ (p' : PT Value), LeE G e p' → evalC P K X callA L (seqOf l) (envC s) (heapC K s) = some (x, p', h) →
      wpL P (bodyPost P fn fun en w' => ∃ ψ r', (∀ B, B < K → ψ B = φ0 B) ∧ en = .returned r' ∧ VR ψ u r' ∧ Rel P W K J ψ (heapC K s') w') l a w := by
    intro p' hle he
    refine wpL_mono (fun y a' w' hp => ?_) _ _ _ (evalL_ok (J := J) hX hN hcA hm l hok φ _ _ a w _ _ _ he R E hdf)
    obtain ⟨rfl, hdf', ψ0, hle0, R', E'⟩ := hp
    obtain ⟨v', k1, k2⟩ := results_ok R' E' (resC_spec hle _ _ hvs)
    have hag' : ∀ B, B < K → ψ0 B = φ0 B := fun B hB => by
      obtain ⟨z, hz⟩ := St.self (φ0 := φ0) R B hB
      rw [← hag B hB, hz, hle0 B z hz]
    have hs := hsub
    -- the final state, under its names
    have hR : ∃ rl, renM K (renOf K rl) ψ0 = renM K (renOf K (pathsN vs e h ps [])) ψ0 := ⟨_, rfl⟩
    obtain ⟨χ, g1, g2, _⟩ := sub_ok' R' E' hle hs
    have hv : VR (renM K (renOf K (pathsN vs e h ps [])) ψ0) u v' := renB_ok _ _ _ hren k2
    rw [← g1] at hv
    have g1' : ∀ B, B < K → χ B = φ0 B := fun B hB => by rw [g1]; unfold renM; rw [if_pos hB]; exact hag' B hB
    cases y with
    | normal => exact ⟨hdf', v', k1, χ, v', g1', rfl, hv, g2⟩
    | ret => exact ⟨hdf', v', k1, χ, v', g1', rfl, hv, g2⟩
    | _ => cases hx
  rcases hf _ _ _ _ _ hr (e3C_le h1) with ⟨e1, p1, h1', g1, g2, g3⟩ | ⟨x1, e1, p1, h1', g1, g2, g3, g4⟩
  · cases g3; exact fin p1 g2 g1
  · cases g4; exact fin p1 g3 g1
/-- Some codes, then others. -/
theorem seg_ok (hX : ExtOk P W K X) (hN : NamesOk P) (hcA : CallGood P W K callA) (hm : P.follows .mixedOrders = true) {G : Nat → Bool} {L n : Nat} {l l2 : List Code} (hok : l.all (codeOk n) = true) {f : E3 → AHeap → (E3 → AHeap → OutK) → OutK} (hf : CodeOk P K X callA G L (seqOf l) f) {φ0 : Map} {Q : Exit → Act → World → Prop}
    {ps : List Path} {s s' : CS} (hb : reachB K G f ps s s' = true) (hq : ∀ a w, St P W K J φ0 n (envC s') (heapC K s') a w → wpL P Q l2 a w) : ∀ a w, St P W K J φ0 n (envC s) (heapC K s) a w → wpL P Q (l ++ l2) a w :=
  fun a w hst => wpL_of_append _ _ _ _ (reachL_ok (J := J) hX hN hcA hm (fun c hc => List.all_eq_true.1 hok c hc) hf hb (fun a w hst => hq a w hst) a w hst)
/-- A loop, in parts, then other codes. -/
theorem loop_ok (hX : ExtOk P W K X) (hN : NamesOk P) (hcA : CallGood P W K callA) (hm : P.follows .mixedOrders = true) {G : Nat → Bool} {L n id : Nat} {b : Code} {l2 : List Code} (hok : codeOk n b = true) {f : E3 → AHeap → (E3 → AHeap → OutK) → OutK} (hf : CodeOk P K X callA G L b f) {φ0 : Map} {Q : Exit → Act → World → Prop}
    {ps : List Path} {s1 s2 s3 : CS} {L' : Nat} (hchain : ∀ (Q : Exit → Act → World → Prop), (∀ a w, St P W K J φ0 n (envC s2) (heapC K s2) a w → LoopWp P b Q a w) → ∀ a w, St P W K J φ0 n (envC s1) (heapC K s1) a w → LoopWp P b Q a w)
    (hleave : leaveB K G f L' id ps s2 s3 = true) (hq : ∀ a w, St P W K J φ0 n (envC s3) (heapC K s3) a w → wpL P Q l2 a w) : ∀ a w, St P W K J φ0 n (envC s1) (heapC K s1) a w → wpL P Q (Code.block id (.loop b) :: l2) a w := by
  intro a w hst
  show Code.wp P (Code.block id (.loop b)) (Exit.then (wpL P Q l2) Q) a w
  refine wp_block (wp_loopWp (hchain _ ?_ a w hst))
  refine leave_ok (J := J) hX hN hcA hm hok hf hleave (fun a w hst => ?_)
  show Exit.inBlock id _ (.exit id) a w
  simp only [Exit.inBlock, if_true]
  exact hq a w hst
/-- What is told of a call at an empty memory. -/
def FnTold (P : Program) (K : Nat) (fid : FuncId) (args : List Value) (u : Value) (s : CS) : Prop := ∀ (W : World) (J : Nat → Option Obj) (φ0 : Map) (w : World) (args' : List Value), Rel P W K J φ0 ⟨.nil, K, K⟩ w → VRs φ0 args args' →
    Calls P fid args'.toArray w fun en w' => ∃ ψ r', (∀ B, B < K → ψ B = φ0 B) ∧ en = .returned r' ∧ VR ψ u r' ∧ Rel P W K J ψ (heapC K s) w'
theorem entry_ok {fid : FuncId} {fn : Func} {c : Code} (hfn : P.funcs[fid]? = some fn) (hbody : fn.body = some c) {args : List Value} {u : Value} {s0 s4 : CS} (hs0 : s0 = ⟨args.zipIdx.map fun p => (p.2, p.1), []⟩) (hlen : args.length ≤ fn.ntmps)
    (h : ∀ (W : World) (J : Nat → Option Obj) (φ0 : Map) a w, St P W K J φ0 fn.ntmps (envC s0) (heapC K s0) a w →
      wpL P (bodyPost P fn fun en w' => ∃ ψ r', (∀ B, B < K → ψ B = φ0 B) ∧ en = .returned r' ∧ VR ψ u r' ∧ Rel P W K J ψ (heapC K s4) w') (flatC c) a w) : FnTold P K fid args u s4 := by
  intro W J φ0 w args' R ha
  refine calls_of_wp hfn hbody (wp_flat c _ _ _ (h W J φ0 _ w ?_))
  refine ⟨⟨φ0, fun B _ => rfl, ?_, ?_⟩, rfl⟩
  · rw [hs0]; exact R.congr (fun B => rfl) rfl rfl
  · have hl := ha.length
    refine ⟨by simp; omega, fun i v hv => ?_⟩
    rw [hs0] at hv
    have hm : (i, v) ∈ args.zipIdx.map fun p => (p.2, p.1) := by
      rcases env_fold _ _ i v hv with h | h
      · exact h
      · simp at h
    obtain ⟨q, hq, hqe⟩ := List.mem_map.1 hm
    have hqi := List.mem_zipIdx' hq
    simp only [Prod.mk.injEq] at hqe
    obtain ⟨rfl, rfl⟩ := hqe
    obtain ⟨v', g1, g2⟩ := ha.get q.2 q.1 (by rw [List.getElem?_eq_getElem hqi.1]; exact congrArg some hqi.2.symm)
    refine ⟨v', ?_, g2⟩
    have hlt : q.2 < args'.length := (List.getElem?_eq_some_iff.1 g1).1
    rw [Array.getElem?_append_left (by simpa using hlt)]
    simpa using g1
/-- Nothing known of the memory. -/
theorem Rel.bare {φ : Map} {h : AHeap} {w : World} (R : Rel P W K J φ h w) (hn : h.next = K) (hr : h.ro = K) : Rel P W K J φ ⟨.nil, K, K⟩ w :=
  ⟨R.below, fun B o e => by simp at e, fun B x e => by have := R.dom B x e; rw [hn] at this; exact this, fun B C x y o p e => by simp at e, fun B x e h1 => R.old B x e (by rw [hr]; exact h1),
   fun B x e h1 => R.fix B x e (by rw [hr]; exact h1), R.size, R.self, Nat.le_refl _, R.junk, fun B x c n E _ _ e => by simp at e⟩
/-- Calls that are told, at an empty memory. -/
abbrev Tolds := List (FuncId × List Value × Value × CS)
def toldO (K : Nat) (ts : Tolds) : Orc := fun f => match ts.lookup f with
  | some (as, u, s) => some fun args h => if h.next = K ∧ h.ro = K ∧ veqs args as = true then some (u, heapC K s) else none
  | none => none
theorem toldO_ok {ts : Tolds} (ht : ∀ f as u s, ts.lookup f = some (as, u, s) → FnTold P K f as u s) : OrcOk P W K (toldO K ts) := by
  intro f g hg args h r h' he J φ w args' R ha
  unfold toldO at hg
  split at hg
  case h_2 => cases hg
  rename_i as u s hl
  cases hg
  simp only at he
  split at he
  case isFalse => cases he
  rename_i hc
  obtain ⟨h1, h2, h3⟩ := hc
  cases he
  have := veqs_eq _ _ h3
  subst this
  refine (ht f _ _ _ hl W J φ w args' (R.bare h1 h2) ha).mono fun en w' hh => ?_
  obtain ⟨ψ, r', g1, g2, g3, g4⟩ := hh
  exact ⟨ψ, r', fun B x e => by rw [g1 B (by have := R.dom B x e; rw [h1] at this; exact this)]; exact e, g2, g3, g4⟩
end
end Go.Ab
