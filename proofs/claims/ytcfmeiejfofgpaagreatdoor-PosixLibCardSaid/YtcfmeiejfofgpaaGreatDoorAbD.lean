/- The abstract evaluator's operations on places, slices, maps and whatever is told by its type; and that the model's do what they tell. -/
import Derived.Test.YtcfmeiejfofgpaaGreatDoorAbC
import Derived.Laws.Slices
namespace Go.Ab
open Go.RowKit
set_option linter.unusedVariables false
set_option linter.unusedSectionVars false

section
variable [Sg] {P : Program} {W : World} {K : Nat} {J : Nat → Option Obj} {φ : Map} {h h' : AHeap} {w : World}

theorem addr_eq {a : Addr} (h : a.spot = none) (n : Nat) (x : At) : (⟨x.b, a.off + x.d, none⟩ : Addr).add n = ⟨x.b, a.off + n + x.d, none⟩ := by
  rw [addr_add, show a.off + x.d + n = a.off + n + x.d by omega]

/-! ### fieldAddr, indexAddr -/
def afieldAt (P : Program) (s : TypeId) (v : Value) (field : Nat) : Option Value :=
  match v with
  | .pointer (some a) => match P.underlying s with
    | some (.struct fields) => match fields[field]? with
      | none => none
      | some f => match P.info? f.type with
        | none => none
        | some i => if i.size = 0 then none else some (.pointer (some ⟨a.block, a.off + f.offset, none⟩))
    | _ => none
  | _ => none
theorem afieldAt_ok {s : TypeId} {v v' r : Value} {field : Nat} (w : World) (e : afieldAt P s v field = some r) (hv : VR φ v v') :
    ∃ r', (Instr.fieldAt s v' field).run P w = .ok r' w ∧ VR φ r r' := by
  unfold afieldAt at e
  split at e
  · rename_i a
    obtain ⟨x, hx, hs, rfl⟩ := hv.ptr_inv
    split at e
    · rename_i fields hu
      split at e
      · cases e
      · rename_i f hf
        split at e
        · cases e
        · rename_i i hi
          split at e
          · cases e
          · rename_i h0
            cases e
            refine ⟨.pointer (some ⟨x.b, a.off + f.offset + x.d, none⟩), ?_, .ptr (a := ⟨a.block, a.off + f.offset, none⟩) hx rfl⟩
            simp only [Instr.fieldAt, Sem.run_bind, run_underlying w hu, Result.andThen_ok, hf]
            simp only [Instr.sureAddr, Sem.run_bind, Sem.run_pure, Result.andThen_ok, fieldPlace, run_sizeOf w hi]
            rw [if_neg h0]
            simp only [Sem.run_pure, Result.andThen_ok, addr_eq hs]
    · cases e
  · cases e

def aindexAt (P : Program) (t : TypeId) (v ix : Value) : Option Value :=
  match ix with
  | .int _ i => match v with
    | .pointer (some a) => match P.underlying t with
      | some (.array len elem) => match P.info? elem with
        | none => none
        | some e => if 0 ≤ i ∧ i < len then some (.pointer (some ⟨a.block, a.off + i.toNat * e.size, none⟩)) else none
      | _ => none
    | .slice (some a) len _ => match P.underlying t with
      | some (.slice elem) => match P.info? elem with
        | none => none
        | some e => if 0 ≤ i ∧ i < len then some (.pointer (some ⟨a.block, a.off + i.toNat * e.size, none⟩)) else none
      | _ => none
    | _ => none
  | _ => none
theorem aindexAt_ok {t : TypeId} {v v' ix r : Value} (w : World) (e : aindexAt P t v ix = some r) (hv : VR φ v v') :
    ∃ r', (Instr.indexAt t v' ix).run P w = .ok r' w ∧ VR φ r r' := by
  unfold aindexAt at e
  split at e
  · rename_i k i
    split at e
    · rename_i a
      obtain ⟨x, hx, hs, rfl⟩ := hv.ptr_inv
      split at e
      · rename_i len elem hu
        split at e
        · cases e
        · rename_i ei hei
          split at e
          · rename_i hb
            cases e
            refine ⟨.pointer (some ⟨x.b, a.off + i.toNat * ei.size + x.d, none⟩), ?_, .ptr (a := ⟨a.block, a.off + i.toNat * ei.size, none⟩) hx rfl⟩
            simp [Instr.indexAt, asIntOf, run_underlying w hu, Instr.sureAddr, hb, run_sizeOf w hei, addr_eq hs]
          · cases e
      · cases e
    · rename_i a len cap
      obtain ⟨x, cap', o, hx, hs, hl1, hl2, _, ho, rfl⟩ := hv.slice_inv
      split at e
      · rename_i elem hu
        split at e
        · cases e
        · rename_i ei hei
          split at e
          · rename_i hb
            cases e
            have ho : o = a.off + x.d := ho.resolve_right (by omega)
            subst ho
            refine ⟨.pointer (some ⟨x.b, a.off + i.toNat * ei.size + x.d, none⟩), ?_, .ptr (a := ⟨a.block, a.off + i.toNat * ei.size, none⟩) hx rfl⟩
            simp [Instr.indexAt, asIntOf, run_underlying w hu, hb, run_sizeOf w hei, addr_eq hs]
          · cases e
      · cases e
    · cases e
  · cases e

/-! ### field, index, extract: parts of values -/
def apart (P : Program) (t : TypeId) (cs : Array Value) (off : Nat) : Option Value :=
  match P.underlying t with
  | none => none
  | some d => if isAggB d = true then
      match P.info? t with
      | none => none
      | some i => some (.agg (cs.extract off (off + i.size)))
    else cs[off]?
theorem apart_ok {t : TypeId} {cs cs' : Array Value} {off : Nat} {r : Value} (w : World) (e : apart P t cs off = some r) (hc : VRs φ cs.toList cs'.toList) :
    ∃ r', (part t cs' off).run P w = .ok r' w ∧ VR φ r r' := by
  unfold apart at e
  split at e
  · cases e
  · rename_i d hd
    split at e
    · rename_i ha
      split at e
      · cases e
      · rename_i i hi
        cases e
        refine ⟨.agg (cs'.extract off (off + i.size)), ?_, .of_aggs ?_⟩
        · simp [part, run_isAgg w hd, ha, run_sizeOf w hi]
        · have hsz : cs.size = cs'.size := by simpa using hc.length
          refine VRs.of_get _ _ (by simp [hsz]) fun j v v' e1 e2 => ?_
          simp only [Array.getElem?_toList, Array.getElem?_extract] at e1 e2
          split at e1
          · rw [if_pos (by omega)] at e2
            obtain ⟨u, g1, g2⟩ := hc.get _ _ (by simpa using e1)
            simp only [Array.getElem?_toList] at g1
            rw [g1] at e2; cases e2; exact g2
          · cases e1
    · rename_i ha
      obtain ⟨v', g1, g2⟩ := hc.get _ _ (by simpa using e)
      simp only [Array.getElem?_toList] at g1
      exact ⟨v', by simp [part, run_isAgg w hd, ha, g1], g2⟩

def afield (P : Program) (t : TypeId) (v : Value) (field : Nat) : Option Value :=
  match v with
  | .agg cs => match P.underlying t with
    | some (.struct fields) => match fields[field]? with
      | none => none
      | some f => apart P f.type cs f.offset
    | _ => none
  | _ => none
theorem afield_ok {t : TypeId} {v v' r : Value} {field : Nat} (w : World) (e : afield P t v field = some r) (hv : VR φ v v') :
    ∃ r', (Instr.field t v' field).run P w = .ok r' w ∧ VR φ r r' := by
  unfold afield at e
  split at e
  · rename_i cs
    obtain ⟨cs', rfl, hc⟩ := hv.agg_inv
    split at e
    · rename_i fields hu
      split at e
      · cases e
      · rename_i f hf
        obtain ⟨r', h1, h2⟩ := apart_ok w e hc
        exact ⟨r', by simp [Instr.field, run_underlying w hu, hf, asAgg, h1], h2⟩
    · cases e
  · cases e

def aindex (P : Program) (t : TypeId) (v ix : Value) : Option Value :=
  match ix with
  | .int _ i => match v with
    | .agg cs => match P.underlying t with
      | some (.array len elem) => match P.info? elem with
        | none => none
        | some e => if 0 ≤ i ∧ i < len then apart P elem cs (i.toNat * e.size) else none
      | _ => none
    | .string s => match P.underlying t with
      | some .string => if 0 ≤ i then match s.data[i.toNat]? with
          | none => none
          | some b => some (.int .u8 b.toNat)
        else none
      | _ => none
    | _ => none
  | _ => none
theorem aindex_ok {t : TypeId} {v v' ix r : Value} (w : World) (e : aindex P t v ix = some r) (hv : VR φ v v') :
    ∃ r', (Instr.index t v' ix).run P w = .ok r' w ∧ VR φ r r' := by
  unfold aindex at e
  split at e
  · rename_i k i
    split at e
    · rename_i cs
      obtain ⟨cs', rfl, hc⟩ := hv.agg_inv
      split at e
      · rename_i len elem hu
        split at e
        · cases e
        · rename_i ei hei
          split at e
          · rename_i hb
            obtain ⟨r', h1, h2⟩ := apart_ok w e hc
            exact ⟨r', by simp [Instr.index, asIntOf, run_underlying w hu, hb, run_sizeOf w hei, h1], h2⟩
          · cases e
      · cases e
    · rename_i s
      have := hv.flat_inv rfl
      subst this
      split at e
      · rename_i hu
        split at e
        · rename_i h0
          split at e
          · cases e
          · rename_i b hb
            cases e
            refine ⟨_, ?_, .flat rfl⟩
            have : s[i.toNat]? = some b := by
              rw [← hb]
              rcases Nat.lt_or_ge i.toNat s.size with hl | hl
              · rw [getElem?_pos s _ hl, getElem?_pos s.data _ hl]; rfl
              · rw [getElem?_neg s _ (by omega), getElem?_neg s.data _ (by show ¬ i.toNat < s.data.size; exact Nat.not_lt.2 hl)]
            simp [Instr.index, asIntOf, run_underlying w hu, h0, this]
        · cases e
      · cases e
    · cases e
  · cases e

def aextract (v : Value) (i : Nat) : Option Value :=
  match v with
  | .tuple vs => vs[i]?
  | _ => none
theorem aextract_ok {v v' r : Value} {i : Nat} (w : World) (e : aextract v i = some r) (hv : VR φ v v') : ∃ r', (Instr.extract v' i).run P w = .ok r' w ∧ VR φ r r' := by
  unfold aextract at e
  split at e
  · obtain ⟨vs', rfl, hc⟩ := hv.tuple_inv
    obtain ⟨r', g1, g2⟩ := hc.get _ _ (by simpa using e)
    simp only [Array.getElem?_toList] at g1
    exact ⟨r', by simp [Instr.extract, g1], g2⟩
  · cases e

/-! ### Slicing -/
def optInt : Option Value → Option (Option Int)
  | none => some none
  | some (.int _ i) => some (some i)
  | _ => none
/-- low, high, max of a slice expression, with what it is cut from. -/
def abounds (len cap : Nat) (low high max : Option Value) : Option (Nat × Nat × Nat) :=
  match optInt max with
  | none => none
  | some mx => match (match mx with | none => some cap | some i => if 0 ≤ i ∧ i ≤ cap then some i.toNat else none) with
    | none => none
    | some m => match optInt high with
      | none => none
      | some hi => match (match hi, mx with | some i, _ => (if 0 ≤ i ∧ i ≤ m then some i.toNat else none) | none, none => some len | none, some _ => none) with
        | none => none
        | some h => match optInt low with
          | none => none
          | some lo => match (match lo with | none => some 0 | some i => if 0 ≤ i ∧ i ≤ h then some i.toNat else none) with
            | none => none
            | some l => some (l, h, m)
theorem run_bound {k : IntKind} {i : Int} {y : Nat} (w : World) (code : BoundsCode) (h : 0 ≤ i ∧ i ≤ y) : (Instr.sliceBound (.int k i) y code).run P w = .ok i.toNat w := by
  simp [Instr.sliceBound, asIntOf, h]
/-- What is within an abstract slice's room is within the model's. -/
theorem abounds_ok {len cap cap' : Nat} {low high max : Option Value} {l h m : Nat} (isSlice : Bool) (w : World) (hcap : cap ≤ cap') (hlen : len ≤ cap) (e : abounds len cap low high max = some (l, h, m)) :
    l ≤ h ∧ h ≤ m ∧ m ≤ cap ∧ ∃ m', (Instr.sliceBounds isSlice len cap' low high max).run P w = .ok (l, h, m') w ∧ ((max = none ∧ m = cap ∧ m' = cap') ∨ m' = m) := by
  unfold abounds at e
  split at e
  · cases e
  · rename_i mx hmx
    split at e
    · cases e
    · rename_i m0 hm0
      split at e
      · cases e
      · rename_i hi hhi
        split at e
        · cases e
        · rename_i h0 hh0
          split at e
          · cases e
          · rename_i lo hlo
            split at e
            · cases e
            · rename_i l0 hl0
              cases e
              obtain ⟨m', hm', hmm⟩ : ∃ m', (match (generalizing := false) max with
                  | some v => Instr.sliceBound v cap' (if isSlice then .slice3Acap else .slice3Alen)
                  | none => pure cap' : Sem Nat).run P w = .ok m' w ∧ ((max = none ∧ m = cap ∧ m' = cap' ∧ mx = none) ∨ (m' = m ∧ m ≤ cap ∧ ∃ i, mx = some i)) := by
                cases max with
                | none =>
                  simp only [optInt, Option.some.injEq] at hmx
                  subst hmx
                  simp only [Option.some.injEq] at hm0
                  exact ⟨cap', rfl, .inl ⟨rfl, hm0.symm, rfl, rfl⟩⟩
                | some v =>
                  cases v <;> simp only [optInt, Option.some.injEq] at hmx <;> try (cases hmx; done)
                  subst hmx
                  simp only at hm0
                  split at hm0
                  · rename_i hb
                    cases hm0
                    refine ⟨_, run_bound w _ ⟨hb.1, by omega⟩, .inr ⟨rfl, by omega, _, rfl⟩⟩
                  · cases hm0
              have hmc : m ≤ m' ∧ m ≤ cap := by rcases hmm with ⟨_, h1, h2, _⟩ | ⟨h1, h2, _⟩ <;> omega
              obtain ⟨hh, hhm⟩ : (match (generalizing := false) high, max with
                  | some v, some _ => Instr.sliceBound v m' .slice3B
                  | some v, none => Instr.sliceBound v m' (if isSlice then .sliceAcap else .sliceAlen)
                  | none, none => pure len
                  | none, some _ => stuck "Slice: max without high" : Sem Nat).run P w = .ok h w ∧ h ≤ m := by
                cases high with
                | none =>
                  simp only [optInt, Option.some.injEq] at hhi
                  subst hhi
                  rcases hmm with ⟨k1, k2, k3, k4⟩ | ⟨k1, k2, i, k4⟩
                  · subst k1 k4
                    simp only [Option.some.injEq] at hh0
                    subst hh0
                    exact ⟨rfl, by omega⟩
                  · subst k4
                    simp at hh0
                | some v =>
                  cases v <;> simp only [optInt, Option.some.injEq] at hhi <;> try (cases hhi; done)
                  subst hhi
                  simp only at hh0
                  split at hh0
                  · rename_i hb
                    cases hh0
                    refine ⟨?_, by omega⟩
                    cases max with
                    | none => exact run_bound w _ ⟨hb.1, by omega⟩
                    | some _ => exact run_bound w _ ⟨hb.1, by omega⟩
                  · cases hh0
              obtain ⟨hl, hlh⟩ : (match (generalizing := false) low with
                  | some v => Instr.sliceBound v h (if max.isSome then .slice3C else .sliceB)
                  | none => pure 0 : Sem Nat).run P w = .ok l w ∧ l ≤ h := by
                cases low with
                | none =>
                  simp only [optInt, Option.some.injEq] at hlo
                  subst hlo
                  simp only [Option.some.injEq] at hl0
                  subst hl0
                  exact ⟨rfl, by omega⟩
                | some v =>
                  cases v <;> simp only [optInt, Option.some.injEq] at hlo <;> try (cases hlo; done)
                  subst hlo
                  simp only at hl0
                  split at hl0
                  · rename_i hb
                    cases hl0
                    exact ⟨run_bound w _ hb, by omega⟩
                  · cases hl0
              refine ⟨hlh, hhm, hmc.2, m', ?_, ?_⟩
              · unfold Instr.sliceBounds
                clear hmx hhi hlo hm0 hh0 hl0 hmm hmc
                cases max <;> cases high <;> cases low <;> (try simp only [] at hm' hh hl ⊢) <;> rw [Sem.run_bind, hm', Result.andThen_ok, Sem.run_bind, hh, Result.andThen_ok, Sem.run_bind, hl, Result.andThen_ok] <;> rfl
              · rcases hmm with ⟨k1, k2, k3, _⟩ | ⟨k1, _, _⟩
                · exact .inl ⟨k1, k2, k3⟩
                · exact .inr k1
end
end Go.Ab
