/- The abstract evaluator's operations on structs, slices, strings and memory, and that the model's do what they tell. -/
import Derived.Test.YtcfmeiejfofgpaaGreatDoorAbB
namespace Go.Ab
open Go.RowKit
set_option linter.unusedVariables false
set_option linter.unusedSectionVars false

section
variable [Sg] {P : Program} {W : World} {K : Nat} {J : Nat → Option Obj} {φ : Map} {h h' : AHeap} {w : World}

/-! ### build, buildSlice -/
theorem fold_set (off : Nat) : ∀ (l l' : List Value) (j : Nat) (c c' : Array Value), VRs φ l l' → VRs φ c.toList c'.toList →
    VRs φ ((l.zipIdx j).foldl (fun cs (x : Value × Nat) => cs.setIfInBounds (off + x.2) x.1) c).toList ((l'.zipIdx j).foldl (fun cs (x : Value × Nat) => cs.setIfInBounds (off + x.2) x.1) c').toList := by
  intro l l' j c c' hl
  induction hl generalizing j c c' with
  | nil => intro h; exact h
  | @cons v v' l l' hv _ ih =>
    intro hc
    simp only [List.zipIdx_cons, List.foldl_cons]
    refine ih _ _ _ (VRs.of_get _ _ (by simpa using hc.length) fun i u u' e1 e2 => ?_)
    simp only [Array.getElem?_toList, Array.getElem?_setIfInBounds] at e1 e2
    have hsz : c.size = c'.size := by simpa using hc.length
    by_cases hi : off + j = i
    · rw [if_pos hi] at e1 e2
      split at e1
      · rename_i hlt
        rw [if_pos (by omega)] at e2
        cases e1; cases e2; exact hv
      · cases e1
    · rw [if_neg hi] at e1 e2
      obtain ⟨u'', g1, g2⟩ := hc.get i u (by simpa using e1)
      simp only [Array.getElem?_toList] at g1
      rw [e2] at g1; cases g1; exact g2

theorem fill_ok (place : Nat → Option (Nat × Nat)) : ∀ (parts parts' : List (Nat × Value)) (c c' r : Array Value), parts.map (·.1) = parts'.map (·.1) → VRs φ (parts.map (·.2)) (parts'.map (·.2)) →
    VRs φ c.toList c'.toList → Instr.fill place c parts = some r → ∃ r', Instr.fill place c' parts' = some r' ∧ VRs φ r.toList r'.toList := by
  intro parts
  induction parts with
  | nil =>
    intro parts' c c' r h1 h2 hc e
    cases parts' with
    | nil => simp only [Instr.fill, Option.some.injEq] at e; subst e; exact ⟨c', rfl, hc⟩
    | cons => simp at h1
  | cons p parts ih =>
    intro parts' c c' r h1 h2 hc e
    cases parts' with
    | nil => simp at h1
    | cons p' parts' =>
      obtain ⟨i, v⟩ := p
      obtain ⟨i', v'⟩ := p'
      simp only [List.map_cons, List.cons.injEq] at h1
      obtain ⟨rfl, h1⟩ := h1
      simp only [List.map_cons] at h2
      cases h2 with
      | cons hv h2 =>
        have hcs := hv.cells
        have hcl : v.cells.size = v'.cells.size := by simpa using hcs.length
        have hsz : c.size = c'.size := by simpa using hc.length
        simp only [Instr.fill] at e ⊢
        cases hp : place i with
        | none => rw [hp] at e; cases e
        | some os =>
          obtain ⟨off, size⟩ := os
          rw [hp] at e
          simp only at e ⊢
          rw [← hcl, ← hsz]
          split at e
          · cases e
          · rename_i hb
            rw [if_neg hb]
            refine ih parts' _ _ r h1 h2 ?_ e
            have := fold_set off v.cells.toList v'.cells.toList 0 c c' hcs hc
            simp only [← Array.foldl_toList, Array.toList_zipIdx]
            exact this

def places (P : Program) : List Field → Option (List (Nat × Nat))
  | [] => some []
  | f :: r => match P.info? f.type with
    | none => none
    | some i => match places P r with
      | none => none
      | some l => some ((f.offset, i.size) :: l)
theorem places_run (w : World) : ∀ (fs : List Field) (l : List (Nat × Nat)), places P fs = some l → (fs.mapM fun f => do pure (f.offset, ← sizeOf f.type) : Sem (List (Nat × Nat))).run P w = .ok l w := by
  intro fs
  induction fs with
  | nil => intro l e; simp only [places, Option.some.injEq] at e; subst e; simp
  | cons f r ih =>
    intro l e
    simp only [places] at e
    split at e
    · cases e
    · rename_i i hi
      split at e
      · cases e
      · rename_i l' hl
        cases e
        rw [List.mapM_cons]
        simp only [Sem.run_bind, run_sizeOf w hi, Result.andThen_ok, Sem.run_pure, ih l' hl]

def abuild (P : Program) (t : TypeId) (parts : List (Nat × Value)) : Option Value :=
  match P.info? t with
  | none => none
  | some i => match i.zero with
    | none => none
    | some z => if z.cells.toList.all noAddr = true then
        match P.underlying t with
        | some (.struct fields) => match places P fields.toList with
          | none => none
          | some pl => match Instr.fill (pl[·]?) z.cells parts with
            | none => none
            | some cs => some (.agg cs)
        | some (.array _ elem) => match P.info? elem with
          | none => none
          | some ei => match Instr.fill (fun i => some (i * ei.size, ei.size)) z.cells parts with
            | none => none
            | some cs => some (.agg cs)
        | _ => none
      else none
theorem abuild_ok {t : TypeId} {parts parts' : List (Nat × Value)} {v : Value} (w : World) (e : abuild P t parts = some v) (h1 : parts.map (·.1) = parts'.map (·.1)) (h2 : VRs φ (parts.map (·.2)) (parts'.map (·.2))) :
    ∃ v', (Instr.build t parts'.toArray).run P w = .ok v' w ∧ VR φ v v' := by
  unfold abuild at e
  split at e
  · cases e
  · rename_i i hi
    split at e
    · cases e
    · rename_i z hz
      split at e
      · rename_i hzf
        have hzz : VRs φ z.cells.toList z.cells.toList := VRs.of_flat hzf
        split at e
        · rename_i fields hu
          split at e
          · cases e
          · rename_i pl hpl
            split at e
            · cases e
            · rename_i cs hcs
              cases e
              obtain ⟨r', g1, g2⟩ := fill_ok _ _ _ _ _ _ h1 h2 hzz hcs
              refine ⟨.agg r', ?_, .of_aggs g2⟩
              have hm := places_run w fields.toList pl hpl
              have hm' : (fields.mapM fun f => do pure (f.offset, ← sizeOf f.type) : Sem (Array (Nat × Nat))).run P w = .ok pl.toArray w := by
                rw [show fields = fields.toList.toArray by simp, List.mapM_toArray]
                simp only [Sem.run_map, hm, Result.andThen_ok]
              simp only [Instr.build, Sem.run_bind, run_zeroValue w hi hz, Result.andThen_ok, run_underlying w hu, hm']
              have : (fun x => pl.toArray[x]?) = (fun x : Nat => pl[x]?) := by funext x; simp
              rw [this, g1]
              rfl
        · rename_i n elem hu
          split at e
          · cases e
          · rename_i ei hei
            split at e
            · cases e
            · rename_i cs hcs
              cases e
              obtain ⟨r', g1, g2⟩ := fill_ok _ _ _ _ _ _ h1 h2 hzz hcs
              refine ⟨.agg r', ?_, .of_aggs g2⟩
              simp only [Instr.build, Sem.run_bind, run_zeroValue w hi hz, Result.andThen_ok, run_underlying w hu, run_sizeOf w hei]
              rw [g1]
              rfl
        · cases e
      · cases e

/-- n zeros. -/
def azeros (z : Array Value) (n : Nat) : Array Value := (Array.range n).map (z[· % z.size]!)
theorem azeros_flat {z : Array Value} {n : Nat} (hz : z.toList.all noAddr = true) (h0 : 0 < z.size ∨ n = 0) : (azeros z n).toList.all noAddr = true := by
  rw [List.all_eq_true] at hz ⊢
  intro v hv
  simp only [azeros, Array.toList_map, List.mem_map] at hv
  obtain ⟨i, hi, rfl⟩ := hv
  rcases h0 with h0 | h0
  · have : i % z.size < z.size := Nat.mod_lt _ h0
    rw [getElem!_pos z _ this]
    exact hz _ (by simp)
  · subst h0
    simp at hi

def abuildSlice0 (P : Program) (t : TypeId) (len : Nat) (parts : List (Nat × Value)) (h : AHeap) : Option (Value × AHeap) :=
  match P.underlying t with
  | some (.slice elem) => match P.info? elem with
    | none => none
    | some i => match i.zero with
      | none => none
      | some z => if z.cells.toList.all noAddr = true ∧ 0 < z.cells.size ∧ len * i.size ≤ 2 ^ 24 then
          match Instr.fill (fun k => some (k * i.size, i.size)) (azeros (if len * i.size = 0 then #[] else z.cells) (len * i.size)) parts with
          | none => none
          | some cs => some (.slice (some ⟨h.next, 0, none⟩) len len, h.new (.cells (PT.ofList cs.toList) cs.size elem))
        else none
  | _ => none
theorem abuildSlice0_ok {t : TypeId} {len : Nat} {parts parts' : List (Nat × Value)} {v : Value} (R : Rel P W K J φ h w) (e : abuildSlice0 P t len parts h = some (v, h'))
    (h1 : parts.map (·.1) = parts'.map (·.1)) (h2 : VRs φ (parts.map (·.2)) (parts'.map (·.2))) :
    ∃ ψ w' v', φ.le ψ ∧ (Instr.buildSlice t len parts'.toArray).run P w = .ok v' w' ∧ Rel P W K J ψ h' w' ∧ VR ψ v v' := by
  unfold abuildSlice0 at e
  split at e
  · rename_i elem hu
    split at e
    · cases e
    · rename_i i hi
      split at e
      · cases e
      · rename_i z hz
        split at e
        · rename_i hc
          obtain ⟨c1, c2, c3⟩ := hc
          split at e
          · cases e
          · rename_i cs hcs
            cases e
            have hzz : VRs φ (azeros (if len * i.size = 0 then #[] else z.cells) (len * i.size)).toList (azeros (if len * i.size = 0 then #[] else z.cells) (len * i.size)).toList := by
              refine VRs.of_flat (azeros_flat ?_ ?_)
              · split
                · rfl
                · exact c1
              · by_cases h0 : len * i.size = 0
                · exact .inr h0
                · rw [if_neg h0]; exact .inl c2
            obtain ⟨r', g1, g2⟩ := fill_ok _ _ _ _ _ _ h1 h2 hzz hcs
            obtain ⟨ψ, k1, k2, k3, k4⟩ := R.newRow g2 elem 0 #[] false (fun h => by cases h)
            refine ⟨ψ, _, .slice (some ⟨w.heap.size, 0, none⟩) len len, k1, ?_, by simpa using k4, ?_⟩
            · have e : r'.toList.toArray ++ #[] = r' := by simp
              rw [e] at k3
              simp only [Instr.buildSlice, Sem.run_bind, run_underlying w hu, Result.andThen_ok, run_sizeOf w hi]
              rw [if_neg (by omega)]
              unfold azeros at g1
              split
              · rename_i h0
                rw [if_pos h0] at g1
                simp only [Sem.run_bind, Sem.run_pure, Result.andThen_ok, g1, k3]
              · rename_i h0
                rw [if_neg h0] at g1
                simp only [Sem.run_bind, Sem.run_pure, Result.andThen_ok, run_zeroValue w hi hz, g1, k3]
            · exact .slice (a := ⟨h.next, 0, none⟩) k2 rfl (Nat.le_refl _) (Nat.le_refl _) (.inl rfl) (.inl (by simp))
        · cases e
  · cases e
/-! ### The same, where the parts come one after another -/
theorem setAll_get (off : Nat) : ∀ (l : List Value) (j : Nat) (cs : Array Value), off + j + l.length ≤ cs.size →
    ((l.zipIdx j).foldl (fun (cs : Array Value) (p : Value × Nat) => cs.setIfInBounds (off + p.2) p.1) cs).size = cs.size ∧
    ∀ i, ((l.zipIdx j).foldl (fun (cs : Array Value) (p : Value × Nat) => cs.setIfInBounds (off + p.2) p.1) cs)[i]? = if off + j ≤ i ∧ i < off + j + l.length then l[i - (off + j)]? else cs[i]? := by
  intro l
  induction l with
  | nil => intro j cs h; refine ⟨rfl, fun i => ?_⟩; rw [if_neg (by simp)]; rfl
  | cons v l ih =>
    intro j cs h
    simp only [List.length_cons] at h
    simp only [List.zipIdx_cons, List.foldl_cons]
    obtain ⟨h1, h2⟩ := ih (j + 1) (cs.setIfInBounds (off + j) v) (by simp; omega)
    refine ⟨by rw [h1]; simp, fun i => ?_⟩
    rw [h2, List.length_cons]
    by_cases e1 : off + j = i
    · subst e1
      rw [if_neg (by omega), if_pos (by omega), Array.getElem?_setIfInBounds]
      simp
      omega
    · by_cases e2 : off + (j + 1) ≤ i ∧ i < off + (j + 1) + l.length
      · rw [if_pos e2, if_pos (by omega), show i - (off + j) = (i - (off + (j + 1))) + 1 by omega, List.getElem?_cons_succ]
      · rw [if_neg e2, if_neg (by omega), Array.getElem?_setIfInBounds_ne e1]

def packed (size : Nat) : Nat → List (Nat × Value) → Option (List Value)
  | _, [] => some []
  | k, (i, v) :: r => if i = k ∧ v.cells.size = size then match packed size (k + 1) r with
      | some l => some (v.cells.toList ++ l)
      | none => none
    else none
theorem packed_length {size : Nat} : ∀ (parts : List (Nat × Value)) (k : Nat) (l : List Value), packed size k parts = some l → l.length = parts.length * size := by
  intro parts
  induction parts with
  | nil => intro k l h; simp only [packed, Option.some.injEq] at h; subst h; simp
  | cons p r ih =>
    intro k l h
    obtain ⟨i, v⟩ := p
    simp only [packed] at h
    split at h
    case isFalse => cases h
    rename_i hc
    split at h
    case h_2 => cases h
    rename_i l' hl
    cases h
    simp [ih _ _ hl, hc.2, Nat.add_mul, Nat.add_comm]
theorem fill_packed {size : Nat} : ∀ (parts : List (Nat × Value)) (k : Nat) (c : Array Value) (l : List Value), packed size k parts = some l → (k + parts.length) * size ≤ c.size →
    ∃ r, Instr.fill (fun k => some (k * size, size)) c parts = some r ∧ r.size = c.size ∧ ∀ i, r[i]? = if k * size ≤ i ∧ i < k * size + l.length then l[i - k * size]? else c[i]? := by
  intro parts
  induction parts with
  | nil => intro k c l h hs; simp only [packed, Option.some.injEq] at h; subst h; exact ⟨c, rfl, rfl, fun i => by rw [if_neg (by simp)]⟩
  | cons p r ih =>
    intro k c l h hs
    obtain ⟨i, v⟩ := p
    simp only [packed] at h
    split at h
    case isFalse => cases h
    rename_i hc
    obtain ⟨rfl, hv⟩ := hc
    split at h
    case h_2 => cases h
    rename_i l' hl
    cases h
    have hlen := packed_length _ _ _ hl
    simp only [List.length_cons] at hs
    have hs' : i * size + size + r.length * size ≤ c.size := by
      have : (i + (r.length + 1)) * size = i * size + size + r.length * size := by rw [Nat.add_mul, Nat.add_mul]; omega
      omega
    have hvl : v.cells.toList.length = size := by simpa using hv
    have key := setAll_get (i * size) v.cells.toList 0 c (by omega)
    have hfold : v.cells.zipIdx.foldl (fun (cs : Array Value) (p : Value × Nat) => cs.setIfInBounds (i * size + p.2) p.1) c = (v.cells.toList.zipIdx 0).foldl (fun (cs : Array Value) (p : Value × Nat) => cs.setIfInBounds (i * size + p.2) p.1) c := by
      rw [← Array.foldl_toList, Array.toList_zipIdx]
    rw [← hfold] at key
    obtain ⟨k1, k2⟩ := key
    obtain ⟨r', g1, g2, g3⟩ := ih (i + 1) (v.cells.zipIdx.foldl (fun (cs : Array Value) (p : Value × Nat) => cs.setIfInBounds (i * size + p.2) p.1) c) l' hl (by
      rw [k1]
      have : (i + 1 + r.length) * size = i * size + size + r.length * size := by rw [Nat.add_mul, Nat.add_mul]; omega
      omega)
    refine ⟨r', ?_, by rw [g2, k1], fun n => ?_⟩
    · simp only [Instr.fill]
      rw [if_neg (by simp [hv]; omega)]
      exact g1
    · rw [g3, k2, List.length_append, hvl]
      simp only [Nat.add_zero]
      have e1 : (i + 1) * size = i * size + size := by rw [Nat.add_mul]; omega
      simp only [e1]
      by_cases c1 : i * size + size ≤ n ∧ n < i * size + size + l'.length
      · rw [if_pos c1, if_pos (by omega), List.getElem?_append_right (by omega), hvl, show n - i * size - size = n - (i * size + size) by omega]
      · rw [if_neg c1]
        by_cases c2 : i * size ≤ n ∧ n < i * size + size
        · rw [if_pos c2, if_pos (by omega), List.getElem?_append_left (by omega)]
        · rw [if_neg c2, if_neg (by omega)]

def abuildSlice (P : Program) (t : TypeId) (len : Nat) (parts : List (Nat × Value)) (h : AHeap) : Option (Value × AHeap) :=
  match P.underlying t with
  | some (.slice elem) => match P.info? elem with
    | none => none
    | some i => match i.zero with
      | none => none
      | some z => if z.cells.toList.all noAddr = true ∧ 0 < z.cells.size ∧ len * i.size ≤ 2 ^ 24 then
          match packed i.size 0 parts with
          | some l => if parts.length = len then some (.slice (some ⟨h.next, 0, none⟩) len len, h.new (.cells (PT.ofList l) (len * i.size) elem)) else abuildSlice0 P t len parts h
          | none => abuildSlice0 P t len parts h
        else none
  | _ => none
theorem azeros_size (z : Array Value) (n : Nat) : (azeros z n).size = n := by simp [azeros]
theorem abuildSlice_eq {t : TypeId} {len : Nat} {parts : List (Nat × Value)} {h : AHeap} {r : Value × AHeap} (e : abuildSlice P t len parts h = some r) : abuildSlice0 P t len parts h = some r := by
  unfold abuildSlice at e
  split at e
  case h_2 => cases e
  rename_i elem hu
  split at e
  · cases e
  rename_i i hi
  split at e
  · cases e
  rename_i z hz
  split at e
  case isFalse => cases e
  rename_i hc
  split at e
  case h_2 => exact e
  rename_i l hl
  split at e
  case isFalse => exact e
  rename_i hlen
  cases e
  obtain ⟨r, g1, g2, g3⟩ := fill_packed parts 0 (azeros (if len * i.size = 0 then #[] else z.cells) (len * i.size)) l hl (by rw [azeros_size, hlen, Nat.zero_add]; exact Nat.le_refl _)
  rw [azeros_size] at g2
  have hr : r.toList = l := by
    have hll := packed_length _ _ _ hl
    rw [hlen] at hll
    refine List.ext_getElem? fun n => ?_
    have := g3 n
    rw [Array.getElem?_toList, this, Nat.zero_mul, Nat.zero_add, Nat.sub_zero]
    by_cases c : n < l.length
    · rw [if_pos ⟨Nat.zero_le _, c⟩]
    · rw [if_neg (by omega), List.getElem?_eq_none (by omega), Array.getElem?_eq_none (by rw [azeros_size]; omega)]
  simp only [abuildSlice0, hu, hi, hz]
  rw [if_pos hc, g1]
  simp only [hr, g2]
theorem abuildSlice_ok {t : TypeId} {len : Nat} {parts parts' : List (Nat × Value)} {v : Value} (R : Rel P W K J φ h w) (e : abuildSlice P t len parts h = some (v, h'))
    (h1 : parts.map (·.1) = parts'.map (·.1)) (h2 : VRs φ (parts.map (·.2)) (parts'.map (·.2))) :
    ∃ ψ w' v', φ.le ψ ∧ (Instr.buildSlice t len parts'.toArray).run P w = .ok v' w' ∧ Rel P W K J ψ h' w' ∧ VR ψ v v' :=
  abuildSlice0_ok R (abuildSlice_eq e) h1 h2

end
end Go.Ab
