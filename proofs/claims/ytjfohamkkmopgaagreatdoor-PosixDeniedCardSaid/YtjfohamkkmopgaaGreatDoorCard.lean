/- The law PosixDenied: a call with a handle that is none, or of a number that is none, is answered in the step in which it is called, and changes nothing else: for every number and every handle the law returns true: the row and its card. -/
import Derived.Test.YtjfohamkkmopgaaGreatDoorLaw
import Derived.Test.YtjfohamkkmopgaaGreatDoorTie
import Derived.Test.YtjfohamkkmopgaaGreatDoorCards
import Derived.ProofKit
import Derived.ChangeSame
import Derived.ChangeVars
import Derived.JoinedOf
import Derived.LaidLaws
import Derived.LaidHandle
import Derived.SevenTiedAt
import Derived.OpenShut
import Derived.ChangeMaps5
import Derived.ShutString
import Derived.Lay
namespace Go.Proofs.YtjfohamkkmopgaaGreatDoor
set_option linter.unusedSimpArgs false
set_option linter.unusedSectionVars false
open Go.ChangeShapes Go.WideShapes Go.ChangeAt Go.RowKit Go.Ab
set_option linter.unusedVariables false
set_option maxRecDepth 100000
abbrev laidAll3 : List (String × DataW Unit) := [("unicode/utf8.acceptRanges", Rows.laid_unicode_utf8_acceptRanges), ("errors.errorType", Rows.laid_errors_errorType), ("unicode/utf8.first", Rows.laid_unicode_utf8_first)]
abbrev laidTwo : List (String × DataW Unit) := [("unicode/utf8.acceptRanges", Rows.laid_unicode_utf8_acceptRanges), ("unicode/utf8.first", Rows.laid_unicode_utf8_first)]
/-- The variable's cell, out of the row's premise. -/
theorem told {W : World} (h : laidMetH Tryz.prog laidAll3 W) : Ab.Told W 5 gl := by
  have h' : laidMet Tryz.prog laidTwo W ∧ handlesMet Tryz.prog [("errors.errorType", Rows.laid_errors_errorType)] W := h
  obtain ⟨name, u, ty, e1, e2, e3, e4, e5⟩ := h'.2 _ (List.mem_singleton.2 rfl)
  have en : name = [101, 114, 114, 111, 114] := (Option.some.inj e1).symm
  subst en
  obtain rfl := Option.some.inj ((show (Tryz.prog.cutTypes.find? (·.1 == "internal/reflectlite.rtype")).map (·.2) = some 282 by kernel_rfl).symm.trans e2)
  have hm : ty ∈ (List.range 397).filter fun t => Tryz.prog.rowNamed t [101, 114, 114, 111, 114] := List.mem_filter.2 ⟨List.mem_range.2 (by rw [← (show Tryz.prog.types.size = 397 by kernel_rfl)]; exact e3), e4⟩
  rw [show ((List.range 397).filter fun t => Tryz.prog.rowNamed t [101, 114, 114, 111, 114]) = [34] by kernel_rfl] at hm
  obtain rfl := List.mem_singleton.1 hm
  refine @Ab.Told.one noSg _ _ _ _ (by decide) (by kernel_rfl) ?_
  rw [World.var?_cell (show Tryz.prog.globalNamed "errors.errorType" = some 0 by kernel_rfl) e5 0]
  rfl
theorem u64_wf {m : Int} (wm : (Lit.int .u64 m).wf = true) : 0 ≤ m ∧ m < 2 ^ 64 := by
  have h : (decide (IntKind.u64.min ≤ m) && decide (m ≤ IntKind.u64.max)) = true := wm
  have e1 : IntKind.u64.min = 0 := by decide
  have e2 : IntKind.u64.max = 18446744073709551615 := by decide
  rw [Bool.and_eq_true] at h
  have a := of_decide_eq_true h.1
  have b := of_decide_eq_true h.2
  rw [e1] at a
  rw [e2] at b
  omega
theorem own : ownKnob Tryz.prog.godebug = none := by kernel_rfl
/-- A world that meets the condition. -/
noncomputable def laidWorld (os : Os) : World :=
  let w0 := World.laidAll Tryz.prog os laidTwo
  { w0 with heap := w0.heap.modify 0 fun
      | .cells _ t frozen => .cells #[.iface 282 (.agg #[typeHandle Tryz.prog 34])] t frozen
      | o => o }
theorem laidWorld_met (os : Os) (args : Array Value) : laidMetH Tryz.prog laidAll3 ((laidWorld os).forCall (fun _ _ => 0) ⟨#[], args, []⟩).memory :=
  laidMetH_of_parts (laidMet_of_run' 8 (by kernel_rfl) (by kernel_rfl)) (by kernel_rfl)
theorem denied_lifted (os : Os) (started : os.Started) (H : Type) (enc : TypeId × Value → H) :
    ReturnsInHanded {} Tryz.checked os 4 .any (fun w args => (Rows.posixDeniedSpec.pre enc Tryz.prog Tryz.f4 [] false w args ∧ laidMetH Tryz.prog laidAll3 w) ∧ sizedMet enc Tryz.prog Tryz.f4 (OpenSpec.ofChange Rows.posixDeniedSpec) false w args)
      (Rows.posixDeniedSpec.post enc Tryz.prog Tryz.f4 false true false false) := by
  refine returnsInHanded_of_change_and (C := Tryz.checked) (X := fun w _ => laidMetH Tryz.prog laidAll3 w) (fun _ _ _ hh h => h.of_heap hh) own started (by kernel_rfl) Tryz.func4
    (ChangeSpec.witness_at (enc := enc) (C := Tryz.checked) (os := os) (X := fun w _ => laidMetH Tryz.prog laidAll3 w) false (laidWorld os) #[.int .i64 0, .int .u64 0] 8 (World.laidAll_os _ _ _) (by kernel_rfl) (by kernel_rfl) (by kernel_rfl) (by kernel_rfl) (by kernel_rfl) (laidWorld_met os _)) ?_
  intro W base args ds gs before hval0 hW hcnd hsz hL _
  have hval : ∀ (j : Nat) t v, Tryz.f4.params[j]? = some t → args[j]? = some v → Value.okWide Tryz.prog W .any base t v := hval0
  have hW' := hW
  obtain ⟨p, q, hA0, hV, rfl, hfz, hnd⟩ := hW
  have hA : DataW.TrodAll enc Tryz.prog W 0 (fun _ => true) true Tryz.f4.params.toList args.toList ds p := hA0
  rw [Tryz.params4] at hA hval
  obtain ⟨v0, v1, d0, d1, p0, p1, rfl, rfl, rfl, h0, h1⟩ := trodAll_two hA
  obtain ⟨rfl, rfl⟩ := trodVars_none hV
  obtain ⟨n, rfl, rfl, rfl, wn⟩ := open_int Tryz.underlying3 (hval 0 3 v0 rfl rfl) h0
  obtain ⟨m, rfl, rfl, rfl, wm⟩ := open_int Tryz.underlying43 (hval 1 43 v1 rfl rfl) h1
  clear hA0 hval0
  have hm : 0 ≤ m ∧ m < 2 ^ 64 := u64_wf wm
  obtain ⟨k, rfl⟩ : ∃ k : Nat, m = k := ⟨m.toNat, by omega⟩
  refine (posix_denied (told hL) n k (by omega)).mono fun e W' ⟨he, bel⟩ => ?_
  subst he
  exact ⟨_, rfl, _, _, _, [], _, [], hW', trodAll_mk1 (shut_bool Tryz.underlying4 _), trodAll_mk2 (shut_int Tryz.underlying3 wn) (shut_int Tryz.underlying43 wm), rfl, bel.frame _, fun h => by cases h⟩
theorem denied_said : Rows.PosixDeniedSaid :=
  OpenClaim.holds_of_wide 4 Tryz.f4 rfl rfl rfl rfl rfl rfl rfl ⟨rfl, rfl, rfl, rfl, rfl⟩ rfl rfl rfl rfl rfl (by kernel_rfl) Tryz.func4 (by kernel_rfl)
    (of_decide_eq_true (by kernel_rfl)) (by unfold Func.isWrapper; first | (rw [if_pos (by decide +kernel)]; kernel_rfl) | (rw [if_neg (by decide +kernel)]; exact ⟨rfl, rfl⟩))
    (fun os started H enc _ => denied_lifted os started H enc)
theorem denied_card : Rows.PosixDeniedCardSaid :=
  Claim7.holds_tied_plain_at .later [] [.data, .handle, .pinned] true (true, "885ea682541254fd449e2b7652e30d3aa6181abee4422b20f03434880c1d8857") true
    denied_said (fun _ h => by cases h) (by kernel_rfl) (fun _ h => by cases h) posixDenied_row_tie rfl ⟨rfl, rfl⟩ (by kernel_rfl) rfl
    (fun f fn hf hfn => by
      obtain rfl : f = 4 := Option.some.inj ((show Tryz.prog.funcNamed "distaff/distafflaw24.PosixDenied" = some 4 by kernel_rfl).symm.trans hf) |>.symm
      obtain rfl : fn = Tryz.f4 := (Option.some.inj (Tryz.func4.symm.trans hfn)).symm
      exact ⟨by kernel_rfl, fun j t ht => by
        rw [Tryz.params4] at ht
        have h3 : t = 3 ∨ t = 43 := by
          rcases j with _ | _ | j
          · exact .inl (by simpa using ht.symm)
          · exact .inr (by simpa using ht.symm)
          · simp at ht
        rcases h3 with rfl | rfl
        · exact (show Tryz.prog.wantsStandIn 3 = false by kernel_rfl)
        · exact (show Tryz.prog.wantsStandIn 43 = false by kernel_rfl)⟩)
    (by kernel_rfl)
#print axioms denied_card
end Go.Proofs.YtjfohamkkmopgaaGreatDoor
