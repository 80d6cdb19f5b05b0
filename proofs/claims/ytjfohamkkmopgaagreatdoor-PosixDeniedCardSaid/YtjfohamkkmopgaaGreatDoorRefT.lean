/- The machine's answer to a call with a handle that is none, or of a number that is none, told. -/
import Derived.Test.YtjfohamkkmopgaaGreatDoorKern
namespace Go.Proofs.YtjfohamkkmopgaaGreatDoor
open Go.Ab Go Go.RowKit
set_option maxRecDepth 100000
set_option linter.unusedSectionVars false
set_option linter.unusedVariables false
noncomputable section
section
variable (d : Den) (p : Nat)
theorem of_all : ((List.range 64).all fun q => gives (@call0F (deI d q) 200 [ptrV 5, sy 2] (heapP 5 obsOf)) (.pointer none)) = true := by kernel_rfl
theorem refA : letI := deI d p; (ksA.all fun k => gives (callRF 157 (argsRef (i64 k)) (heapP 5 obsRef)) (u64 22)) = true := by kernel_rfl
theorem refB : letI := deI d p; (ksB.all fun k => gives (callRF 157 (argsRef (i64 k)) (heapP 5 obsRef)) (u64 38)) = true := by kernel_rfl
end
/-- The place of the handle's row. -/
def pl (d : Den) : Nat := (d.hd - 1) % 64
theorem pσ_pl (d : Den) (i : Nat) : pσ d (pl d) i = dσ d i := if_pos rfl
theorem of_told (d : Den) : letI := deI d (pl d); FnToldR Tryz.prog 5 200 obsOf [ptrV 5, sy 2] (.pointer none) := by
  letI := deI d (pl d)
  have h := List.all_eq_true.1 (of_all d) (pl d) (List.mem_range.2 (Nat.mod_lt _ (by decide)))
  exact toldR_of good0F rfl h
theorem tsOf_ok (d : Den) : letI := deI d (pl d); ∀ f t, tsOf.lookup f = some t → FnToldR Tryz.prog 5 f t.obs t.args t.u := by
  letI := deI d (pl d)
  intro f t h
  unfold tsOf at h
  simp only [List.lookup] at h
  split at h
  · rename_i e; cases h; rw [eq_of_beq e]; exact of_told d
  · cases h
theorem goodRF (d : Den) (W : World) : letI := deI d (pl d); CallGood Tryz.prog W 5 callRF := by
  letI := deI d (pl d)
  exact evalF_good ext_ok names_ok (toldR_ok (tsOf_ok d) (good0F W)) codes_ok mixed 30
/-- What a number, and what is answered, have to do with each other. -/
def Den.fits (d : Den) : Prop := (d.k ∈ ksA ∧ d.want = 22) ∨ (d.k ∈ ksB ∧ d.want = 38)
theorem ref_told (d : Den) (hf : d.fits) : letI := deI d (pl d); FnToldR Tryz.prog 5 157 obsRef (argsRef (sy 0)) (sy 3) := by
  letI := deI d (pl d)
  intro w φ0 args' R ha
  have key : ∀ n : Nat, d.want = n → FnToldR Tryz.prog 5 157 obsRef (argsRef (i64 d.k)) (u64 n) → Calls Tryz.prog 157 args'.toArray w fun en w' => ∃ r', en = .returned r' ∧ Sy Sg.σ (sy 3) r' ∧ Below w.heap.size w w' := by
    intro n hn h
    have ha2 : VRs φ0 (argsRef (i64 d.k)) args' := by
      cases ha with | cons h1 ha => cases ha with | cons h2 ha => cases ha with | cons h3 ha =>
      refine .cons h1 (.cons h2 (.cons ?_ ha))
      cases h3 with
      | flat h => simp [sy, noAddr] at h
      | sym h =>
        have h : pσ d (pl d) 0 = some _ := h
        rw [pσ_pl] at h
        cases h
        exact .flat rfl
    refine (h w φ0 args' R ha2).mono fun en w' hh => ?_
    obtain ⟨r', h1, h2, h3⟩ := hh
    have := h2.lit
    subst this
    refine ⟨_, h1, .inr ⟨3, rfl, ?_⟩, h3⟩
    show pσ d (pl d) 3 = _
    rw [pσ_pl]
    show some (Value.int .u64 (d.want : Int)) = _
    rw [hn]; rfl
  rcases hf with ⟨h1, h2⟩ | ⟨h1, h2⟩
  · exact key 22 h2 (toldR_of (goodRF d) rfl (List.all_eq_true.1 (refA d (pl d)) d.k h1))
  · exact key 38 h2 (toldR_of (goodRF d) rfl (List.all_eq_true.1 (refB d (pl d)) d.k h1))
theorem tsRef_ok (d : Den) (hf : d.fits) : letI := deI d (pl d); ∀ f t, tsRef.lookup f = some t → FnToldR Tryz.prog 5 f t.obs t.args t.u := by
  letI := deI d (pl d)
  intro f t h
  unfold tsRef at h
  simp only [List.lookup] at h
  split at h
  · rename_i e; cases h; rw [eq_of_beq e]; exact ref_told d hf
  · cases h
theorem orcP_ok (d : Den) (hf : d.fits) (W : World) : letI := deI d (pl d); OrcOk Tryz.prog W 5 orcP := by
  letI := deI d (pl d)
  exact toldR_ok (tsRef_ok d hf) (good0F W)
end
end Go.Proofs.YtjfohamkkmopgaaGreatDoor
