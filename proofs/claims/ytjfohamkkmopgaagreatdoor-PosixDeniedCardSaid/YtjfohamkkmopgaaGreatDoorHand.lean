/- The machine's handles: none, where all places are free. -/
import Derived.RangeFuncNested
import Derived.RangeFuncBound
import Derived.RangeFuncCalls
import Derived.RangeFuncLeaves
import Derived.RangeFuncFrom
import Derived.Shelf.Abstract
import Derived.Shelf.RegionOpen
import Derived.WalkKit
import Derived.OwnWalkIn
import Derived.TacticsInMore
import Derived.LoopNIn
import Derived.LoopIn
import Derived.Test.YtjfohamkkmopgaaGreatDoorKern
import Derived.Test.YtjfohamkkmopgaaGreatDoorAbT
namespace Go.Proofs.YtjfohamkkmopgaaGreatDoor
open Go.RowKit Go.Shelf Go.Ab
attribute [local go_sem] Oper.semAt_some
set_option maxRecDepth 100000
set_option maxHeartbeats 2000000
set_option linter.unusedVariables false
set_option linter.unusedSimpArgs false
set_option linter.unusedSectionVars false
theorem cell_of_boxV {W : World} {B : Nat} {v : Value} {t : TypeId} (h : W.heap[B]? = some (.cells #[v] t (0, 0))) : W.cell? ⟨B, 0, none⟩ = some v ∧ W.frozen? ⟨B, 0, none⟩ = false := by
  constructor <;> simp [World.cell?, World.frozen?, h]
theorem cell_newV (W : World) (v : Value) (t : TypeId) : (W.alloc (.cells #[v] t)).cell? ⟨W.heap.size, 0, none⟩ = some v ∧ (W.alloc (.cells #[v] t)).frozen? ⟨W.heap.size, 0, none⟩ = false :=
  cell_of_boxV (World.alloc_heap_new W _)
theorem cell_allocV {W : World} {a : Addr} {v : Value} (o : Obj) (h : W.cell? a = some v) : (W.alloc o).cell? a = some v := cell_kept h (World.grownBy_alloc W o none) (fun r e => by cases e)
theorem frozen_allocV {W : World} {a : Addr} {v : Value} (o : Obj) (h : W.cell? a = some v) (hf : W.frozen? a = false) : (W.alloc o).frozen? a = false := (frozen_kept h (World.grownBy_alloc W o none) (fun r e => by cases e)).trans hf
variable [Sg]
/-- objects.All: the objects are boxed; the function value captures the box. -/
theorem all_in (F : Fence) (n : Nat) (h : F.fn 31) (hro : F.round = none) (v : Value) (w : World) (hv : ∃ a, v = .pointer a) :
    CallsIn F n Tryz.prog 31 #[v] w fun e w' => e = .returned (.func (.func 65) #[] #[.pointer (some ⟨w.heap.size, 0, none⟩)]) ∧ w' = w.alloc (.cells #[v] 98) := by
  obtain ⟨a, rfl⟩ := hv
  refine callsIn_of_wp Tryz.func31 rfl h ?_ hro
  simp only [Tryz.ntmps31, List.size_toArray, List.length_cons, List.length_nil, Nat.reduceAdd, Nat.reduceSub, Array.replicate_succ, Array.replicate_zero, List.push_toArray, List.append_toArray, List.nil_append, List.cons_append]
  gi_wp2
  go_ret
  exact ⟨rfl, rfl⟩
noncomputable section
def obsHd : List PO := [⟨[(1013, ptrV 6)], 1021, 102⟩, ⟨[(0, slcC 7 64 64)], 1, 167⟩, obRows]
def c65 : Code := (Tryz.f65.body).getD .skip
def g65 : Nat → Bool := inMask (Nat.lor (expoC c65) (expoV Tryz.f65.results.toList))
def heapHd : AHeap := ⟨(heapP 5 obsHd).m.set 8 (.cells (PT.nil.set 0 (ptrV 6)) 1 98), 9, 9⟩
theorem body65 : Tryz.f65.body = some c65 := by kernel_rfl
theorem ok65 : (flatC c65).all (codeOk Tryz.f65.ntmps) = true := by kernel_rfl
theorem run65 : endP Tryz.prog g65 (codeK Tryz.prog 5 X call0 g65 100000 (seqOf (flatC c65))).run Tryz.f65.results.toList [(1, ptrV 8)] heapHd = true := by kernel_rfl
theorem heapP_live {K : Nat} {obs : List PO} {B : Nat} {o : AObj} (h : (heapP K obs).m.get B = some o) : o.live = true := by
  simp only [heapP] at h
  rw [PT.get_put] at h
  split at h
  · rw [List.getElem?_map] at h
    cases hc : obs[B - K]? with
    | none => rw [hc] at h; cases h
    | some co => rw [hc] at h; cases h; rfl
  · simp at h
theorem handles_told : FnToldR Tryz.prog 5 15 obsHd [ptrV 5] (.slice none 0 0) := by
  intro w φ0 args' R ha
  cases ha with | cons h1 h2 => cases h2 with | nil =>
  obtain ⟨x, hx, _, rfl⟩ := h1.ptr_inv
  obtain ⟨y, hy, C, f, E, k1, _, k2, k3, k4⟩ := R.obj 5 _ (show (heapP 5 obsHd).m.get 5 = some (PO.obj ⟨[(1013, ptrV 6)], 1021, 102⟩) from rfl)
  rw [hx] at hy; cases hy
  obtain ⟨v1, g1, g2⟩ := k4 1013 (ptrV 6) (by decide) (by rfl)
  obtain ⟨x1, hx1, _, rfl⟩ := g2.ptr_inv
  have hcell : w.cell? ⟨x.b, x.d + 1013, none⟩ = some (.pointer (some ⟨x1.b, 0 + x1.d, none⟩)) := by rw [cell_of k1]; exact g1
  have hcell1 := cell_allocV (.cells #[.slice none 0 0] 29) hcell
  rw [Nat.zero_add] at hcell1
  refine (callsIn_wide (n := 3)).1 (callsIn_of_wp_marks Tryz.func15 rfl trivial ?_)
  simp only [Tryz.ntmps15, List.size_toArray, List.length_cons, List.length_nil, Nat.reduceAdd, Nat.reduceSub, Array.replicate_succ, Array.replicate_zero, List.push_toArray, List.append_toArray, List.nil_append, List.cons_append]
  gi_wp2_with (refine ⟨trivial, ?_⟩; gi_at_call 31; refine (all_in Fence.wide 2 trivial rfl _ _ ⟨_, rfl⟩).mono ?_; rintro e w' ⟨rfl, rfl⟩)
  have hs := cell_newV w (.slice none 0 0) 29
  have hb : ((w.alloc (.cells #[.slice none 0 0] 29)).alloc (.cells #[.pointer (some ⟨x1.b, x1.d, none⟩)] 98)).heap[w.heap.size + 1]? = some (.cells #[.pointer (some ⟨x1.b, x1.d, none⟩)] 98 (0, 0)) := by
    have := World.alloc_heap_new (w.alloc (.cells #[.slice none 0 0] 29)) (.cells #[.pointer (some ⟨x1.b, x1.d, none⟩)] 98)
    rwa [World.size_alloc] at this
  have hB0 : Below w.heap.size w ((w.alloc (.cells #[.slice none 0 0] 29)).alloc (.cells #[.pointer (some ⟨x1.b, x1.d, none⟩)] 98)) := ((Below.refl _ w).alloc (Nat.le_refl _) _).alloc (by simp) _
  have hseq : SeqStopsK Fence.wide 2 Tryz.prog 65 #[.pointer (some ⟨w.heap.size + 1, 0, none⟩)] (fun x : Empty => #[]) (Below w.heap.size) (fun xs => xs = []) (fun _ => False) 0 ((w.alloc (.cells #[.slice none 0 0] 29)).alloc (.cells #[.pointer (some ⟨x1.b, x1.d, none⟩)] 98)) := by
    intro l J Jx W hW hJ hJx hY h0
    have hBW : Below w.heap.size w W := hB0.trans (hW.mono (by simp; omega))
    have hbW : W.heap[w.heap.size + 1]? = some (.cells #[.pointer (some ⟨x1.b, x1.d, none⟩)] 98 (0, 0)) := by rw [hW.block _ (by simp)]; exact hb
    have R1 := (R.later hBW).frozen
    obtain ⟨ψ, hle, hN, R2⟩ := R1.adopt (N := 8) hbW (fun B o x' h1 h2 => by have := R.live_lt h1 (heapP_live h1) h2; omega) (by decide) (v := ptrV 6) (by have := g2; rwa [Nat.zero_add] at this)
    refine callsIn_wide.2 ((partial_calls ext_ok names_ok mixed (good0 W) le0 Tryz.func65 body65 ok65 R2 (show 2 ≤ Tryz.f65.ntmps by decide +kernel) (env := [(1, ptrV 8)]) (args' := #[.func (.yield l) #[] #[], .pointer (some ⟨w.heap.size + 1, 0, none⟩)]) (fun t u h => ?_) run65).mono fun en w' hh => ?_)
    · simp only [List.mem_singleton, Prod.mk.injEq] at h
      obtain ⟨rfl, rfl⟩ := h
      exact ⟨_, rfl, VR.ptr (a := ⟨8, 0, none⟩) hN rfl⟩
    · obtain ⟨r', h1, h2⟩ := hh
      exact ⟨⟨r', h1⟩, .inl ⟨[], rfl, hJ [] W w' none h0 ⟨h2.os, h2.tape, h2.output, h2.size, fun k hk _ => h2.block k hk⟩ (fun r e => by cases e)⟩⟩
  refine wpIn_rangeFunc_ownF rfl (by decide) (gf := 65) (lb := #[.pointer (some ⟨w.heap.size + 1, 0, none⟩)]) rfl trivial (enters_of Tryz.func65 (by kernel_rfl) rfl)
    hseq belowK_t (belowK_b (by simp; omega)) (Below.refl _ _) (fun x => x.elim)
    (fun pre W => (W.cell? ⟨w.heap.size, 0, none⟩ = some (.slice none 0 0) ∧ W.frozen? ⟨w.heap.size, 0, none⟩ = false) ∧ Below w.heap.size w W)
    (fun _ _ _ => False)
    (OwnFrom.and (Own.from (fun s A B row hs hg hr => ⟨cell_kept hs.1 hg hr, (frozen_kept hs.1 hg hr).trans hs.2⟩) _) (ownFrom_below (Nat.le_refl _) (by simp; omega)))
    (fun _ _ _ _ _ hs _ _ => hs)
    ⟨⟨cell_allocV _ hs.1, frozen_allocV _ hs.1 hs.2⟩, hB0⟩
    (fun x => x.elim) (fun l x => x.elim) (fun l pre x => x.elim) ?done ?stop
  case done =>
    rintro D ys W hD rfl ⟨⟨hc, _⟩, hB⟩ hK
    gi_wp2
    refine ⟨by simp, .inl ⟨_, _, rfl, run_takeDeferred hK, ?_⟩⟩
    exact ⟨_, results_tmp rfl _ _ _, _, rfl, .inl ⟨rfl, rfl⟩, hB.trans (belowK_b (w := w) (Nat.le_refl _) W D _ _ (by simp at hD; omega) hK rfl rfl)⟩
  case stop =>
    rintro D c pre W _ _ h _
    exact h.elim
end
end Go.Proofs.YtjfohamkkmopgaaGreatDoor
