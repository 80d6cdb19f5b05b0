/- The abstract evaluator: code, functions; and that the model's calls come to what it tells. -/
import Derived.Test.YtcfmeiejfofgpaaGreatDoorAbN
namespace Go.Ab
open Go.RowKit
set_option linter.unusedVariables false
set_option linter.unusedSectionVars false

section
variable [Sg] {P : Program} {W : World} {K : Nat} {J : Nat → Option Obj}

abbrev Out := Option (Exit × PT Value × AHeap)
def iter (f : PT Value → AHeap → Out) : Nat → PT Value → AHeap → Out
  | 0, _, _ => none
  | n + 1, e, h => match f e h with
    | some (.normal, e', h') => iter f n e' h'
    | r => r

def evalC (P : Program) (K : Nat) (X : Ext) (call : ACall) (L : Nat) : Code → PT Value → AHeap → Out
  | .skip, e, h => some (.normal, e, h)
  | .label _, e, h => some (.normal, e, h)
  | .region _ ops draw, e, h => match (if draw then adraw P K X call ops e h else aops P K X call ops ops.toList e h) with
    | none => none
    | some (e', h') => some (.normal, e', h')
  | .seq a b, e, h => match evalC P K X call L a e h with
    | some (.normal, e', h') => evalC P K X call L b e' h'
    | r => r
  | .cond c a b, e, h => match aval K e c with
    | some (.bool true) => evalC P K X call L a e h
    | some (.bool false) => evalC P K X call L b e h
    | _ => none
  | .block id b, e, h => match evalC P K X call L b e h with
    | some (.exit j, e', h') => if j = id then some (.normal, e', h') else some (.exit j, e', h')
    | r => r
  | .loop b, e, h => iter (evalC P K X call L b) L e h
  | .exit id, e, h => some (.exit id, e, h)
  | .ret, e, h => some (.ret, e, h)
  | _, _, _ => none

/-- What is asked of a code before it is evaluated. -/
def codeOk (n : Nat) : Code → Bool
  | .region _ ops draw => ops.toList.all (dstOk n)
  | .seq a b => codeOk n a && codeOk n b
  | .cond _ a b => codeOk n a && codeOk n b
  | .block _ b => codeOk n b
  | .loop b => codeOk n b
  | _ => true

theorem Post.mono {φ ψ : Map} (h : φ.le ψ) {n : Nat} {x : Exit} {e' : PT Value} {h' : AHeap} {y : Exit} {a : Act} {w : World} (p : Post P W K J ψ n x e' h' y a w) : Post P W K J φ n x e' h' y a w :=
  ⟨p.1, p.2.1, by obtain ⟨χ, h1, h2⟩ := p.2.2; exact ⟨χ, Map.le_trans h h1, h2⟩⟩

theorem iter_ok {c : Code} {n : Nat} {f : PT Value → AHeap → Out}
    (hbody : ∀ (φ : Map) (e : PT Value) (h : AHeap) (a : Act) (w : World) (x : Exit) (e' : PT Value) (h' : AHeap), f e h = some (x, e', h') → Rel P W K J φ h w → ER φ n e a.tmps → a.defers = [] → c.wp P (Post P W K J φ n x e' h') a w) :
    ∀ (m : Nat) (φ : Map) (e : PT Value) (h : AHeap) (a : Act) (w : World) (x : Exit) (e' : PT Value) (h' : AHeap), iter f m e h = some (x, e', h') → Rel P W K J φ h w → ER φ n e a.tmps → a.defers = [] →
      ∀ (b : Frame) (k : List Item) (cs : List Frame), ∃ y a' w', Post P W K J φ n x e' h' y a' w' ∧ Arrives P (lone (b.at a (.code c :: .inLoop c :: k)) cs w) b k cs y a' w' := by
  intro m
  induction m with
  | zero => intro φ e h a w x e' h' he; simp [iter] at he
  | succ m ih =>
    intro φ e h a w x e' h' he R E hdf b k cs
    simp only [iter] at he
    split at he
    · rename_i e1 h1 hf
      obtain ⟨y, a1, w1, ⟨rfl, hdf1, ψ, hle, R1, E1⟩, harr⟩ := hbody φ e h a w _ _ _ hf R E hdf b (.inLoop c :: k) cs
      obtain ⟨y2, a2, w2, hp, harr2⟩ := ih ψ e1 h1 a1 w1 x e' h' he R1 E1 hdf1 b k cs
      exact ⟨y2, a2, w2, hp.mono hle, .of_steps (Steps.trans harr (.one step_inLoop)) harr2⟩
    · rename_i hne
      obtain ⟨y, a1, w1, hp, harr⟩ := hbody φ e h a w _ _ _ he R E hdf b (.inLoop c :: k) cs
      obtain ⟨rfl, hp2⟩ := hp
      exact ⟨y, a1, w1, ⟨rfl, hp2⟩, .pass (x := .inLoop c) rfl (fun _ _ => .inl (fun hy => hne e' h' (by rw [he, hy]))) harr⟩

theorem evalC_ok {X : Ext} (hX : ExtOk P W K X) (hN : NamesOk P) {call : ACall} (hc : CallGood P W K call) (hm : P.follows .mixedOrders = true) {L n : Nat} : ∀ (c : Code), codeOk n c = true →
    ∀ (φ : Map) (e : PT Value) (h : AHeap) (a : Act) (w : World) (x : Exit) (e' : PT Value) (h' : AHeap), evalC P K X call L c e h = some (x, e', h') → Rel P W K J φ h w → ER φ n e a.tmps → a.defers = [] → c.wp P (Post P W K J φ n x e' h') a w := by
  intro c
  induction c with
  | skip => intro _ φ e h a w x e' h' he R E hdf; simp only [evalC] at he; cases he; exact wp_skip ⟨rfl, hdf, φ, φ.le_refl, R, E⟩
  | label l => intro _ φ e h a w x e' h' he R E hdf; simp only [evalC] at he; cases he; exact wp_label ⟨rfl, hdf, φ, φ.le_refl, R, E⟩
  | exit id => intro _ φ e h a w x e' h' he R E hdf; simp only [evalC] at he; cases he; exact wp_exit ⟨rfl, hdf, φ, φ.le_refl, R, E⟩
  | ret => intro _ φ e h a w x e' h' he R E hdf; simp only [evalC] at he; cases he; exact wp_ret ⟨rfl, hdf, φ, φ.le_refl, R, E⟩
  | region id ops draw =>
    intro ok φ e h a w x e' h' he R E hdf
    simp only [codeOk] at ok
    have hd : ∀ o ∈ ops.toList, dstOk n o = true := List.all_eq_true.1 ok
    simp only [evalC] at he
    cases draw with
    | false =>
      simp only [Bool.false_eq_true, if_false] at he
      split at he
      · cases he
      rename_i e1 h1 hh
      cases he
      exact aregion_ok hX hN hc hd hh R E hdf
    | true =>
      simp only [if_true] at he
      split at he
      · cases he
      rename_i e1 h1 hh
      cases he
      exact adraw_ok hX hN hc hm hd hh R E hdf
  | seq c1 c2 ih1 ih2 =>
    intro ok φ e h a w x e' h' he R E hdf
    simp only [codeOk, Bool.and_eq_true] at ok
    simp only [evalC] at he
    refine wp_seq ?_
    split at he
    · rename_i e1 h1 hh
      refine wp_mono (ih1 ok.1 φ e h a w _ _ _ hh R E hdf) ?_
      rintro y a1 w1 ⟨rfl, hdf1, ψ, hle, R1, E1⟩
      exact wp_mono (ih2 ok.2 ψ e1 h1 a1 w1 _ _ _ he R1 E1 hdf1) (fun y a2 w2 hp => hp.mono hle)
    · rename_i hne
      refine wp_mono (ih1 ok.1 φ e h a w _ _ _ he R E hdf) ?_
      rintro y a1 w1 hp
      obtain ⟨rfl, hp2⟩ := hp
      cases y with
      | normal => exact absurd he (hne e' h')
      | _ => exact ⟨rfl, hp2⟩
  | cond c c1 c2 ih1 ih2 =>
    intro ok φ e h a w x e' h' he R E hdf
    simp only [codeOk, Bool.and_eq_true] at ok
    simp only [evalC] at he
    split at he
    · rename_i hv
      exact wp_cond_true ((aval_ok R E _ _ hv).flat_inv rfl) (ih1 ok.1 φ e h a w _ _ _ he R E hdf)
    · rename_i hv
      exact wp_cond_false ((aval_ok R E _ _ hv).flat_inv rfl) (ih2 ok.2 φ e h a w _ _ _ he R E hdf)
    · cases he
  | block id c ih =>
    intro ok φ e h a w x e' h' he R E hdf
    simp only [codeOk] at ok
    simp only [evalC] at he
    refine wp_block ?_
    split at he
    · rename_i j e1 h1 hh
      refine wp_mono (ih ok φ e h a w _ _ _ hh R E hdf) ?_
      rintro y a1 w1 ⟨rfl, hp2⟩
      simp only [Exit.inBlock]
      split at he
      · rename_i hj
        cases he
        rw [if_pos hj]
        exact ⟨rfl, hp2⟩
      · rename_i hj
        cases he
        rw [if_neg hj]
        exact ⟨rfl, hp2⟩
    · rename_i hne
      refine wp_mono (ih ok φ e h a w _ _ _ he R E hdf) ?_
      rintro y a1 w1 ⟨rfl, hp2⟩
      cases y with
      | exit j => exact absurd he (hne j e' h')
      | _ => exact ⟨rfl, hp2⟩
  | loop c ih =>
    intro ok φ e h a w x e' h' he R E hdf
    simp only [codeOk] at ok
    simp only [evalC] at he
    intro b k cs
    obtain ⟨y, a', w', hp, harr⟩ := iter_ok (c := c) (n := n) (J := J) (fun φ e h a w x e' h' => ih ok φ e h a w x e' h') L φ e h a w x e' h' he R E hdf b k cs
    exact ⟨y, a', w', hp, .of_steps (.one step_loop) harr⟩
  | _ => intro _ φ e h a w x e' h' he; simp [evalC] at he

/-! ### Functions -/
def aresults (P : Program) : List ResultVar → PT Value → AHeap → Option (List Value)
  | [], _, _ => some []
  | .tmp t :: r, e, h => match e.get t with
    | none => none
    | some v => match aresults P r e h with
      | none => none
      | some l => some (v :: l)
  | .cell a t :: r, e, h => match e.get a with
    | some (.pointer (some p)) => match aload P t p h with
      | none => none
      | some v => match aresults P r e h with
        | none => none
        | some l => some (v :: l)
    | _ => none
def resVal (vs : List Value) : Value :=
  match vs with
  | [v] => v
  | _ => .tuple vs.toArray

theorem aresults_ok {φ : Map} {h : AHeap} {w : World} {n : Nat} {e : PT Value} {tmps : Array Value} (R : Rel P W K J φ h w) (E : ER φ n e tmps) : ∀ (rs : List ResultVar) (vs : List Value), aresults P rs e h = some vs →
    ∃ vs', (rs.mapM fun
      | .tmp t => pure (tmps.getD t undef)
      | .cell a t => do loadVar t (← asAddr (tmps.getD a undef)) : Sem (List Value)).run P w = .ok vs' w ∧ VRs φ vs vs' := by
  intro rs
  induction rs with
  | nil => intro vs hv; simp only [aresults, Option.some.injEq] at hv; subst hv; exact ⟨[], rfl, .nil⟩
  | cons r rs ih =>
    intro vs hv
    cases r with
    | tmp t =>
      simp only [aresults] at hv
      split at hv
      · cases hv
      rename_i v ht
      split at hv
      · cases hv
      rename_i l hl
      cases hv
      obtain ⟨vs', h1, h2⟩ := ih l hl
      obtain ⟨v', g1, g2⟩ := E.get _ _ ht
      refine ⟨v' :: vs', ?_, .cons g2 h2⟩
      rw [List.mapM_cons]
      simp only [Sem.run_bind, Sem.run_pure, Result.andThen_ok, h1]
      simp [g1]
    | cell a t =>
      simp only [aresults] at hv
      split at hv
      case h_2 => cases hv
      rename_i p hp
      split at hv
      · cases hv
      rename_i v hld
      split at hv
      · cases hv
      rename_i l hl
      cases hv
      obtain ⟨vs', h1, h2⟩ := ih l hl
      obtain ⟨v', g1, g2⟩ := E.get _ _ hp
      obtain ⟨x, hx, hs, rfl⟩ := g2.ptr_inv
      obtain ⟨u, k1, k2⟩ := aload_ok R hld hx
      refine ⟨u :: vs', ?_, .cons k2 h2⟩
      rw [List.mapM_cons]
      have hg : tmps.getD a undef = .pointer (some ⟨x.b, p.off + x.d, none⟩) := by simp [g1]
      have hg2 : (asAddr (tmps.getD a undef)).run P w = .ok ⟨x.b, p.off + x.d, none⟩ w := by rw [hg]; rfl
      simp only [Sem.run_bind, hg2, Sem.run_pure, Result.andThen_ok, k1, h1]

/-- What is told of some functions ahead of their code. -/
abbrev Orc := FuncId → Option (List Value → AHeap → Option (Value × AHeap))

def evalFn (P : Program) (K : Nat) (X : Ext) (O : Orc) (ok : FuncId → Bool) (L : Nat) : Nat → ACall
  | 0, _, _, _ => none
  | d + 1, f, args, h => match O f with
    | some g => g args h
    | none => if ok f = true then match P.funcs[f]? with
        | none => none
        | some fn => match fn.body with
          | none => none
          | some c => if args.length ≤ fn.ntmps then match evalC P K X (evalFn P K X O ok L d) L c (PT.ofList args) h with
              | some (.normal, e, h') => match aresults P fn.results.toList e h' with
                | none => none
                | some vs => some (resVal vs, h')
              | some (.ret, e, h') => match aresults P fn.results.toList e h' with
                | none => none
                | some vs => some (resVal vs, h')
              | _ => none
            else none
      else none

/-- The functions that are evaluated have code that may be. -/
def FnsOk (P : Program) (ok : FuncId → Bool) : Prop := ∀ (f : FuncId) (fn : Func) (c : Code), ok f = true → P.funcs[f]? = some fn → fn.body = some c → codeOk fn.ntmps c = true
/-- What is told of functions ahead of their code is so. -/
def OrcOk (P : Program) (W : World) (K : Nat) (O : Orc) : Prop := ∀ f g, O f = some g → ∀ args h r h', g args h = some (r, h') → ∀ J φ w args', Rel P W K J φ h w → VRs φ args args' →
    Calls P f args'.toArray w fun en w' => ∃ ψ r', φ.le ψ ∧ en = .returned r' ∧ VR ψ r r' ∧ Rel P W K J ψ h' w'

theorem results_ok {φ : Map} {h : AHeap} {w : World} {n : Nat} {e : PT Value} {tmps : Array Value} {fn : Func} {vs : List Value} (R : Rel P W K J φ h w) (E : ER φ n e tmps) (hv : aresults P fn.results.toList e h = some vs) :
    ∃ v', (results fn tmps).run P w = .ok v' w ∧ VR φ (resVal vs) v' := by
  obtain ⟨vs', h1, h2⟩ := aresults_ok R E _ _ hv
  unfold results
  have hm : (fn.results.mapM fun
      | .tmp t => pure (tmps.getD t undef)
      | .cell a t => do loadVar t (← asAddr (tmps.getD a undef)) : Sem (Array Value)).run P w = .ok vs'.toArray w := by
    rw [show fn.results = fn.results.toList.toArray by simp, List.mapM_toArray]
    simp only [Sem.run_map]
    have : fn.results.toList.toArray.toList = fn.results.toList := by simp
    rw [h1]
    rfl
  refine ⟨if h : vs'.toArray.size = 1 then vs'.toArray[0] else .tuple vs'.toArray, ?_, ?_⟩
  · rw [Sem.run_bind]
    exact congrArg (fun r : Result (Array Value) => r.andThen fun a w' => (pure (if h : a.size = 1 then a[0] else .tuple a) : Sem Value).run P w') hm
  · cases h2 with
    | nil => exact .of_tuples .nil
    | cons a1 a2 =>
      cases a2 with
      | nil => exact a1
      | cons a3 a4 =>
        rw [dif_neg (by simp)]
        exact .of_tuples (.cons a1 (.cons a3 a4))

theorem evalFn_good {X : Ext} (hX : ExtOk P W K X) (hN : NamesOk P) {O : Orc} (hO : OrcOk P W K O) {ok : FuncId → Bool} (hok : FnsOk P ok) (hm : P.follows .mixedOrders = true) {L : Nat} : ∀ d, CallGood P W K (evalFn P K X O ok L d) := by
  intro d
  induction d with
  | zero => intro f args h r h' he; simp [evalFn] at he
  | succ d ih =>
    intro f args h r h' he J φ w args' R ha
    simp only [evalFn] at he
    split at he
    · rename_i g hg
      exact hO f g hg args h r h' he J φ w args' R ha
    split at he
    case isFalse => cases he
    rename_i hokf
    split at he
    · cases he
    rename_i fn hfn
    split at he
    · cases he
    rename_i c hb
    split at he
    case isFalse => cases he
    rename_i hlen
    have hcode := hok f fn c hokf hfn hb
    have E : ER φ fn.ntmps (PT.ofList args) (args'.toArray ++ Array.replicate (fn.ntmps - args'.toArray.size) undef) := by
      have hl := ha.length
      refine ⟨by simp; omega, fun i v hv => ?_⟩
      rw [PT.get_ofList] at hv
      obtain ⟨v', h1, h2⟩ := ha.get i v hv
      refine ⟨v', ?_, h2⟩
      have hlt : i < args'.length := by
        rcases Nat.lt_or_ge i args'.length with h | h
        · exact h
        · rw [List.getElem?_eq_none h] at h1; cases h1
      rw [Array.getElem?_append_left (by simpa using hlt)]
      simpa using h1
    have fin : ∀ (x : Exit) (e : PT Value) (h1 : AHeap) (vs : List Value), (x = .normal ∨ x = .ret) → evalC P K X (evalFn P K X O ok L d) L c (PT.ofList args) h = some (x, e, h1) → aresults P fn.results.toList e h1 = some vs →
        Calls P f args'.toArray w fun en w' => ∃ ψ r', φ.le ψ ∧ en = .returned r' ∧ VR ψ (resVal vs) r' ∧ Rel P W K J ψ h1 w' := by
      intro x e h1 vs hx hev hres
      refine calls_of_wp hfn hb (wp_mono (evalC_ok hX hN ih hm c hcode φ _ h { tmps := args'.toArray ++ Array.replicate (fn.ntmps - args'.toArray.size) undef, defers := [] } w x e h1 hev R E rfl) ?_)
      rintro y a w' ⟨rfl, hdf, ψ, hle, R', E'⟩
      obtain ⟨v', k1, k2⟩ := results_ok R' E' hres
      rcases hx with rfl | rfl <;> exact ⟨hdf, v', k1, ψ, v', hle, rfl, k2, R'⟩
    split at he
    · rename_i e h1 hev
      split at he
      · cases he
      rename_i vs hvs
      cases he
      exact fin _ e _ vs (.inl rfl) hev hvs
    · rename_i e h1 hev
      split at he
      · cases he
      rename_i vs hvs
      cases he
      exact fin _ e _ vs (.inr rfl) hev hvs
    · cases he
end
end Go.Ab
