/- The abstract evaluator: cutting slices, making them, append, copy; and that the model's do what they tell. -/
import Derived.Test.YtcfmeiejfofgpaaGreatDoorAbD
namespace Go.Ab
open Go.RowKit
set_option linter.unusedVariables false
set_option linter.unusedSectionVars false

section
variable [Sg] {P : Program} {W : World} {K : Nat} {J : Nat → Option Obj} {φ : Map} {h h' : AHeap} {w : World}

/-! ### Cutting -/
/-- Is what an address lies in a row of such elements? -/
def AHeap.rowOf (h : AHeap) (a : Addr) (elem : TypeId) : Bool :=
  match h.m.get a.block with
  | some (.cells _ _ E) => E == elem
  | _ => false

def asliceAt (P : Program) (t : TypeId) (v : Value) (low high max : Option Value) (h : AHeap) : Option Value :=
  match v with
  | .string s => match P.underlying t, max with
    | some .string, none => match abounds s.size s.size low high none with
      | none => none
      | some (l, h, _) => some (.string (s.extract l h))
    | _, _ => none
  | .slice (some a) len cap => match P.underlying t with
    | some (.slice elem) => match P.info? elem with
      | none => none
      | some e => if len ≤ cap ∧ h.rowOf a elem = true then match abounds len cap low high max with
          | none => none
          | some (l, h, m) => some (.slice (some ⟨a.block, a.off + l * e.size, none⟩) (h - l) (m - l))
        else none
    | _ => none
  | .slice none len cap => match P.underlying t with
    | some (.slice elem) => match P.info? elem with
      | none => none
      | some e => if len ≤ cap then match abounds len cap low high max with
          | none => none
          | some (l, h, m) => some (.slice none (h - l) (m - l))
        else none
    | _ => none
  | .pointer (some a) => match P.underlying t with
    | some (.array n elem) => match P.info? elem with
      | none => none
      | some e => match abounds n n low high max with
        | none => none
        | some (l, h, m) => some (.slice (some ⟨a.block, a.off + l * e.size, none⟩) (h - l) (m - l))
    | _ => none
  | _ => none
theorem asliceAt_ok {t : TypeId} {v v' r : Value} {low high max : Option Value} (R : Rel P W K J φ h w) (e : asliceAt P t v low high max h = some r) (hv : VR φ v v') :
    ∃ r', (Instr.sliceAt t v' low high max).run P w = .ok r' w ∧ VR φ r r' := by
  unfold asliceAt at e
  split at e
  · rename_i s
    have := hv.flat_inv rfl
    subst this
    split at e
    · rename_i hu
      split at e
      · cases e
      · rename_i l h m hb
        cases e
        obtain ⟨h1, h2, h3, m', h4, _⟩ := abounds_ok (P := P) false w (Nat.le_refl _) (Nat.le_refl _) hb
        refine ⟨_, ?_, .flat rfl⟩
        simp only [Instr.sliceAt, Sem.run_bind, run_underlying w hu, Result.andThen_ok, Instr.slice]
        simp only [Option.isSome_none, Bool.false_eq_true, if_false, Sem.run_bind, Sem.run_pure, Result.andThen_ok, h4]
    · cases e
  · rename_i a len cap
    obtain ⟨x, cap', o, hx, hs, hl1, hl2, hg, ho, rfl⟩ := hv.slice_inv
    split at e
    · rename_i elem hu
      split at e
      · cases e
      · rename_i ei hei
        split at e
        case isFalse => cases e
        rename_i hrow
        split at e
        · cases e
        · rename_i l h m hb
          cases e
          obtain ⟨h1, h2, h3, m', h4, h5⟩ := abounds_ok (P := P) true w hl2 hl1 hb
          refine ⟨.slice (some (if m' = l then ⟨x.b, o, none⟩ else (⟨x.b, o, none⟩ : Addr).add (l * ei.size))) (h - l) (m' - l), ?_, ?_⟩
          · simp only [Instr.sliceAt, Sem.run_bind, run_underlying w hu, Result.andThen_ok, Instr.slice, h4, run_sizeOf w hei]
            simp only [Sem.run_pure]
            congr 2
            split <;> rfl
          · have hml : m ≤ m' := by rcases h5 with ⟨_, h5, h6⟩ | h5 <;> omega
            have hoo : (if m' = l then (⟨x.b, o, none⟩ : Addr) else (⟨x.b, o, none⟩ : Addr).add (l * ei.size)) = ⟨x.b, if m' = l then o else o + l * ei.size, none⟩ := by
              split
              · rfl
              · rw [addr_add]
            rw [hoo]
            refine .slice (a := ⟨a.block, a.off + l * ei.size, none⟩) hx rfl (by omega) (by omega) ?_ ?_
            · rcases h5 with ⟨_, h5, h6⟩ | h5
              · rcases hg with hg | ⟨hg, hg2, hg3⟩
                · left; omega
                · right
                  refine ⟨hg, ?_, by omega⟩
                  have hsz : x.es = ei.size := by
                    have hrow := hrow.2
                    unfold AHeap.rowOf at hrow
                    split at hrow
                    · rename_i c n E hE
                      have hE2 : E = elem := by simpa using hrow
                      subst hE2
                      obtain ⟨i, hi, he⟩ := R.es _ x _ _ _ hx hg hE
                      rw [hei] at hi; cases hi; exact he
                    · cases hrow
                  rw [hsz] at hg2 ⊢
                  have : l * ei.size + (m' - l) * ei.size = m' * ei.size := by rw [← Nat.add_mul]; congr 1; omega
                  show a.off + l * ei.size + x.d + (m' - l) * ei.size ≤ x.cs
                  rw [h6] at this ⊢
                  omega
              · left; rw [h5]
            · by_cases hm : m' = l
              · right; omega
              · left
                rw [if_neg hm]
                have : o = a.off + x.d := ho.resolve_right (by rcases h5 with ⟨_, h5, h6⟩ | h5 <;> omega)
                show o + l * ei.size = a.off + l * ei.size + x.d
                omega
    · cases e
  · rename_i len cap
    have := hv.flat_inv rfl
    subst this
    split at e
    · rename_i elem hu
      split at e
      · cases e
      · rename_i ei hei
        split at e
        · rename_i hle
          split at e
          · cases e
          · rename_i l h m hb
            cases e
            obtain ⟨h1, h2, h3, m', h4, h5⟩ := abounds_ok (P := P) true w (Nat.le_refl _) hle hb
            have hmm : m' = m := by rcases h5 with ⟨_, h5, h6⟩ | h5 <;> omega
            subst hmm
            refine ⟨_, ?_, .flat rfl⟩
            simp only [Instr.sliceAt, Sem.run_bind, run_underlying w hu, Result.andThen_ok, Instr.slice, h4, run_sizeOf w hei]
            simp only [Sem.run_pure, Option.map_none, ite_self]
        · cases e
    · cases e
  · rename_i a
    obtain ⟨x, hx, hs, rfl⟩ := hv.ptr_inv
    split at e
    · rename_i n elem hu
      split at e
      · cases e
      · rename_i ei hei
        split at e
        · cases e
        · rename_i l h m hb
          cases e
          obtain ⟨h1, h2, h3, m', h4, h5⟩ := abounds_ok (P := P) false w (Nat.le_refl _) (Nat.le_refl _) hb
          have hmm : m' = m := by rcases h5 with ⟨_, h5, h6⟩ | h5 <;> omega
          subst hmm
          refine ⟨.slice (some (if m' = l then ⟨x.b, a.off + x.d, none⟩ else (⟨x.b, a.off + x.d, none⟩ : Addr).add (l * ei.size))) (h - l) (m' - l), ?_, ?_⟩
          · simp only [Instr.sliceAt, Sem.run_bind, run_underlying w hu, Result.andThen_ok, Instr.sureAddr, Sem.run_pure, h4, run_sizeOf w hei]
          · have hoo : (if m' = l then (⟨x.b, a.off + x.d, none⟩ : Addr) else (⟨x.b, a.off + x.d, none⟩ : Addr).add (l * ei.size)) = ⟨x.b, if m' = l then a.off + x.d else a.off + x.d + l * ei.size, none⟩ := by
              split
              · rfl
              · rw [addr_add]
            rw [hoo]
            refine .slice (a := ⟨a.block, a.off + l * ei.size, none⟩) hx rfl (by omega) (Nat.le_refl _) (.inl rfl) ?_
            by_cases hm : m' = l
            · right; omega
            · left; rw [if_neg hm]; show a.off + x.d + l * ei.size = a.off + l * ei.size + x.d; omega
    · cases e
  · cases e
end
end Go.Ab
