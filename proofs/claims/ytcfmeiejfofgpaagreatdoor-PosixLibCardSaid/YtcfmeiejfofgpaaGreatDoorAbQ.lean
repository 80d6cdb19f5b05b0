/- The abstract evaluator: where a law begins, and what it comes to. -/
import Derived.Test.YtcfmeiejfofgpaaGreatDoorAbP
namespace Go.Ab
open Go.RowKit Go.Extern
set_option linter.unusedVariables false
set_option linter.unusedSectionVars false

/-- How many cells a block has. -/
def gsize (w : World) (b : Nat) : Nat :=
  match w.heap[b]? with
  | some (.cells C _ _) => C.size
  | _ => 0
def map0 (W : World) (K : Nat) : Map := fun B => if B < K then some ⟨B, 0, 0, gsize W B, false⟩ else none
/-- The memory in which a law begins: of some package-level variables' blocks what they hold is told. -/
def heap0 (K : Nat) : List (Nat × List Value) → AHeap
  | [] => ⟨PT.nil, K, K⟩
  | g :: r => { heap0 K r with m := (heap0 K r).m.set g.1 (.cells (PT.ofList g.2) g.2.length 0) }
theorem heap0_next (K : Nat) : ∀ gl, (heap0 K gl).next = K ∧ (heap0 K gl).ro = K
  | [] => ⟨rfl, rfl⟩
  | g :: r => heap0_next K r
theorem heap0_get (K : Nat) : ∀ gl B o, (heap0 K gl).m.get B = some o → ∃ l, (B, l) ∈ gl ∧ o = .cells (PT.ofList l) l.length 0
  | [], B, o, h => by simp [heap0] at h
  | g :: r, B, o, h => by
    simp only [heap0] at h
    rw [PT.get_set] at h
    split at h
    · rename_i e
      subst e
      cases h
      exact ⟨g.2, List.mem_cons_self .., rfl⟩
    · obtain ⟨l, h1, h2⟩ := heap0_get K r B o h
      exact ⟨l, List.mem_cons_of_mem _ h1, h2⟩

/-- What is told of the variables is so. -/
def Told (W : World) (K : Nat) (gl : List (Nat × List Value)) : Prop :=
  ∀ g l, (g, l) ∈ gl → g < K ∧ l.all (kok K) = true ∧ (∃ C E f, W.heap[g]? = some (.cells C E f)) ∧ ∀ i v, l[i]? = some v → W.cell? ⟨g, i, none⟩ = some v

variable [Sg]
theorem rel0 {P : Program} {W : World} {K : Nat} {gl : List (Nat × List Value)} (ht : Told W K gl) : Rel P W K (fun _ => none) (map0 W K) (heap0 K gl) W := by
  have inv : ∀ B x, map0 W K B = some x → B < K ∧ x = ⟨B, 0, 0, gsize W B, false⟩ := by
    intro B x h
    unfold map0 at h
    split at h
    · rename_i hlt; cases h; exact ⟨hlt, rfl⟩
    · cases h
  have self : ∀ B, B < K → map0 W K B = some ⟨B, 0, 0, gsize W B, false⟩ := fun B hB => by unfold map0; rw [if_pos hB]
  -- the relation without its memory, in which values stand
  have R0 : Rel P W K (fun _ => none) (map0 W K) (heap0 K []) W := by
    refine ⟨Below.refl _ _, fun B o h => by simp [heap0] at h, fun B x h => (inv B x h).1, fun B C x y o p h => by simp [heap0] at h, fun B x h hro => absurd (inv B x h).1 (Nat.not_lt.2 hro), fun B x h _ => by rw [(inv B x h).2],
      fun B x h hK => absurd (inv B x h).1 (Nat.not_lt.2 hK), fun B hB => ⟨_, _, self B hB⟩, Nat.le_refl _, fun b O h => (nomatch h), fun B x c n E h hg => by rw [(inv B x h).2] at hg; cases hg⟩
  obtain ⟨hn, hr⟩ := heap0_next K gl
  refine ⟨Below.refl _ _, ?_, fun B x h => by rw [hn]; exact (inv B x h).1, ?_, fun B x h hro => absurd (inv B x h).1 (Nat.not_lt.2 (hr ▸ hro)), fun B x h _ => by rw [(inv B x h).2],
      fun B x h hK => absurd (inv B x h).1 (Nat.not_lt.2 hK), fun B hB => ⟨_, _, self B hB⟩, by rw [hn, hr]; exact Nat.le_refl _, fun b O h => (nomatch h), fun B x c n E h hg => by rw [(inv B x h).2] at hg; cases hg⟩
  · intro B o h
    obtain ⟨l, hl, rfl⟩ := heap0_get K gl B o h
    obtain ⟨hlt, hk, ⟨C, E, f, hC⟩, hc⟩ := ht B l hl
    refine ⟨_, self B hlt, C, f, E, hC, fun hro => ?_, ?_, ?_, ?_⟩
    · rw [hr] at hro
      exact absurd hlt (Nat.not_lt.2 (by simpa using hro))
    · show C.size = gsize W B
      unfold gsize; rw [hC]
    · show 0 + l.length ≤ gsize W B
      unfold gsize; rw [hC]
      show 0 + l.length ≤ C.size
      rcases Nat.eq_zero_or_pos l.length with h0 | h0
      · omega
      · have hlast : l.length - 1 < l.length := by omega
        have h1 := hc (l.length - 1) l[l.length - 1] (List.getElem?_eq_getElem hlast)
        rw [cell_of hC] at h1
        rcases Nat.lt_or_ge (l.length - 1) C.size with h2 | h2
        · omega
        · rw [Array.getElem?_eq_none h2] at h1; cases h1
    · intro i v hi hv
      rw [PT.get_ofList] at hv
      have h1 := hc i v hv
      rw [cell_of hC] at h1
      refine ⟨v, by rw [Nat.zero_add]; exact h1, ?_⟩
      exact kok_VR R0 (List.all_eq_true.1 hk v (List.mem_of_getElem? hv))
  · intro B C x y o p hB hC _ _ e1 e2 e3
    rw [(inv B x e1).2, (inv C y e2).2] at e3
    exact e3

/-- What the evaluator finds, the law does. -/
theorem law_true {P : Program} {W : World} {K : Nat} {gl : List (Nat × List Value)} (ht : Told W K gl) {call : ACall} (hc : CallGood P W K call) {f : FuncId} {args args' : List Value} {h' : AHeap}
    (he : call f args (heap0 K gl) = some (.bool true, h')) (ha : VRs (map0 W K) args args') : Calls P f args'.toArray W fun en w' => en = .returned (.bool true) ∧ Below W.heap.size W w' := by
  refine (hc f args (heap0 K gl) _ h' he _ _ _ _ (rel0 ht) ha).mono fun en w' h => ?_
  obtain ⟨ψ, r', _, h2, h3, h4⟩ := h
  rw [h3.flat_inv rfl] at h2
  exact ⟨h2, h4.below⟩

def isTrue (o : Option (Value × AHeap)) : Bool :=
  match o with
  | some (.bool true, _) => true
  | _ => false
theorem isTrue_some {o : Option (Value × AHeap)} (h : isTrue o = true) : ∃ h', o = some (.bool true, h') := by
  unfold isTrue at h
  split at h
  · exact ⟨_, rfl⟩
  · cases h

/-- A variable of one cell, told. -/
theorem Told.one {W : World} {K g : Nat} {v : Value} (hg : g < K) (hv : kok K v = true) (hc : W.cell? ⟨g, 0, none⟩ = some v) : Told W K [(g, [v])] := by
  intro g' l hm
  simp only [List.mem_singleton, Prod.mk.injEq] at hm
  obtain ⟨rfl, rfl⟩ := hm
  refine ⟨hg, by simpa using hv, ?_, ?_⟩
  · unfold World.cell? at hc
    split at hc
    · exact ⟨_, _, _, ‹_›⟩
    all_goals first | (cases hc; done) | (simp at hc; done)
  · intro i v' hi
    cases i with
    | zero => simp only [List.getElem?_cons_zero, Option.some.injEq] at hi; subst hi; exact hc
    | succ i => simp at hi
theorem Told.append {W : World} {K : Nat} {a b : List (Nat × List Value)} (ha : Told W K a) (hb : Told W K b) : Told W K (a ++ b) := fun g l h => by
  rcases List.mem_append.1 h with h | h
  · exact ha g l h
  · exact hb g l h

/-! ### The program's facts, as closed tests -/
def codesB (P : Program) (ok : FuncId → Bool) : Bool := (List.range P.funcs.size).all fun f => match P.funcs[f]? with
  | some fn => match fn.body with
    | some c => !(ok f) || codeOk fn.ntmps c
    | none => true
  | none => true
theorem fnsOk_of {P : Program} {ok : FuncId → Bool} (h : codesB P ok = true) : FnsOk P ok := by
  intro f fn c hok hf hb
  have hlt : f < P.funcs.size := by
    rcases Nat.lt_or_ge f P.funcs.size with h | h
    · exact h
    · rw [Array.getElem?_eq_none h] at hf; cases hf
  have := List.all_eq_true.1 h f (List.mem_range.2 hlt)
  simp only [hf, hb, hok, Bool.not_true, Bool.false_or] at this
  exact this
def namesB (P : Program) : Bool := P.funcs.toList.all fun fn => fn.body.isNone || fn.name != "runtime.NumGoroutine"
theorem namesOk_of {P : Program} (h : namesB P = true) : NamesOk P := by
  intro f fn hf hb
  have := List.all_eq_true.1 h fn (Array.mem_toList_iff.2 (Array.mem_of_getElem? hf))
  simp only [Bool.or_eq_true, bne_iff_ne, ne_eq] at this
  rcases this with h | h
  · cases hbody : fn.body <;> simp [hbody] at hb h
  · exact h

end Go.Ab
