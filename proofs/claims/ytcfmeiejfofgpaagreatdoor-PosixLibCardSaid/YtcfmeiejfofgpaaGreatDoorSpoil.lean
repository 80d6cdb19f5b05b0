/- distaffkeep.Spoil writes over a slice's cells, and over the room behind it, and over nothing else. -/
import Derived.Test.YtcfmeiejfofgpaaGreatDoorTab
import Derived.WalkKit
namespace Go.Proofs.YtcfmeiejfofgpaaGreatDoor
set_option linter.unusedVariables false
set_option linter.unusedSimpArgs false
set_option linter.unusedSectionVars false
open Go.RowKit Go.Ab
set_option maxRecDepth 100000
/-- Of a world just one row of cells was turned. -/
def Spoilt (b n : Nat) (w w' : World) : Prop := (∃ C, w'.heap[b]? = some (.cells C 60 (0, 0)) ∧ C.size = n) ∧ (∀ j, j ≠ b → w'.heap[j]? = w.heap[j]?) ∧ w'.heap.size = w.heap.size ∧ ∀ W : World, W.heap.size ≤ b → Below W.heap.size W w → Below W.heap.size W w'
theorem Spoilt.refl {b n : Nat} {w : World} {C : Array Value} (hC : w.heap[b]? = some (.cells C 60 (0, 0))) (hn : C.size = n) : Spoilt b n w w := ⟨⟨C, hC, hn⟩, fun _ _ => rfl, rfl, fun _ _ h => h⟩
theorem Spoilt.set {b n : Nat} {w u : World} (h : Spoilt b n w u) (j : Nat) (v : Value) : Spoilt b n w (u.setCell ⟨b, j, none⟩ v) := by
  obtain ⟨⟨C, h1, h2⟩, h3, h4, h5⟩ := h
  refine ⟨⟨C.setIfInBounds j v, ?_, by simpa using h2⟩, fun i hi => ?_, ?_, fun W hW hb => (h5 W hW hb).setCell hW v⟩
  · simp [World.setCell, Array.getElem?_modify, h1]
  · simp only [World.setCell, Array.getElem?_modify]
    rw [if_neg (fun e => hi e.symm)]
    exact h3 i hi
  · rw [World.size_setCell]; exact h4
theorem live {b n j : Nat} {w u : World} (h : Spoilt b n w u) (hj : j < n) : ∃ x, u.cell? ⟨b, j, none⟩ = some x ∧ u.frozen? ⟨b, j, none⟩ = false := by
  obtain ⟨⟨C, h1, h2⟩, _⟩ := h
  refine ⟨C[j]'(by omega), ?_, ?_⟩
  · simp [World.cell?, h1, h2, hj]
  · simp [World.frozen?, h1]
theorem spoil_walk (b o len cap n : Nat) (w : World) (hS0 : Spoilt b n w w) (hroom : o + cap * 7 ≤ n ∨ cap = 0) (hcap : cap < 2 ^ 63) :
    Calls Tryz.prog 7 #[.slice (some ⟨b, o, none⟩) len cap] w fun e w' => e = .returned (.tuple #[]) ∧ Spoilt b n w w' := by
  go_enter Tryz.func7, Tryz.ntmps7
  go_wp2
  go_loopw [2] (fun i wr => ∃ k : Nat, k ≤ cap ∧ i = .int .i64 k ∧ Spoilt b n w wr) (fun i _ => cap - (intOf i).toNat)
  case atStart => exact ⟨0, Nat.zero_le _, rfl, hS0⟩
  case round =>
    obtain ⟨k, hk, rfl, S0⟩ := hrel
    by_cases hkc : k < cap
    · have hroom := hroom.resolve_right (by omega)
      have S1 : Spoilt b n w (wr.setCell ⟨b, o + k * 7, none⟩ (.int .i64 77)) := S0.set _ _
      have S2 : Spoilt b n w ((wr.setCell ⟨b, o + k * 7, none⟩ (.int .i64 77)).setCell ⟨b, o + k * 7 + 1, none⟩ (.int .i64 (-9))) := S1.set _ _
      have S3 : Spoilt b n w (((wr.setCell ⟨b, o + k * 7, none⟩ (.int .i64 77)).setCell ⟨b, o + k * 7 + 1, none⟩ (.int .i64 (-9))).setCell ⟨b, o + k * 7 + 2, none⟩ (.int .i64 0)) := S2.set _ _
      have S4 : Spoilt b n w ((((wr.setCell ⟨b, o + k * 7, none⟩ (.int .i64 77)).setCell ⟨b, o + k * 7 + 1, none⟩ (.int .i64 (-9))).setCell ⟨b, o + k * 7 + 2, none⟩ (.int .i64 0)).setCell ⟨b, o + k * 7 + 3, none⟩ (.int .i64 0)) := S3.set _ _
      have S5 : Spoilt b n w (((((wr.setCell ⟨b, o + k * 7, none⟩ (.int .i64 77)).setCell ⟨b, o + k * 7 + 1, none⟩ (.int .i64 (-9))).setCell ⟨b, o + k * 7 + 2, none⟩ (.int .i64 0)).setCell ⟨b, o + k * 7 + 3, none⟩ (.int .i64 0)).setCell ⟨b, o + k * 7 + 4, none⟩ (.int .u64 0)) := S4.set _ _
      have S6 : Spoilt b n w ((((((wr.setCell ⟨b, o + k * 7, none⟩ (.int .i64 77)).setCell ⟨b, o + k * 7 + 1, none⟩ (.int .i64 (-9))).setCell ⟨b, o + k * 7 + 2, none⟩ (.int .i64 0)).setCell ⟨b, o + k * 7 + 3, none⟩ (.int .i64 0)).setCell ⟨b, o + k * 7 + 4, none⟩ (.int .u64 0)).setCell ⟨b, o + k * 7 + 5, none⟩ (.int .i64 5)) := S5.set _ _
      have S7 : Spoilt b n w (((((((wr.setCell ⟨b, o + k * 7, none⟩ (.int .i64 77)).setCell ⟨b, o + k * 7 + 1, none⟩ (.int .i64 (-9))).setCell ⟨b, o + k * 7 + 2, none⟩ (.int .i64 0)).setCell ⟨b, o + k * 7 + 3, none⟩ (.int .i64 0)).setCell ⟨b, o + k * 7 + 4, none⟩ (.int .u64 0)).setCell ⟨b, o + k * 7 + 5, none⟩ (.int .i64 5)).setCell ⟨b, o + k * 7 + 6, none⟩ (.int .i64 0)) := S6.set _ _
      obtain ⟨x0, c0, f0⟩ := live S0 (j := o + k * 7) (by omega)
      obtain ⟨x1, c1, f1⟩ := live S1 (j := o + k * 7 + 1) (by omega)
      obtain ⟨x2, c2, f2⟩ := live S2 (j := o + k * 7 + 2) (by omega)
      obtain ⟨x3, c3, f3⟩ := live S3 (j := o + k * 7 + 3) (by omega)
      obtain ⟨x4, c4, f4⟩ := live S4 (j := o + k * 7 + 4) (by omega)
      obtain ⟨x5, c5, f5⟩ := live S5 (j := o + k * 7 + 5) (by omega)
      obtain ⟨x6, c6, f6⟩ := live S6 (j := o + k * 7 + 6) (by omega)
      clear hS0
      go_wp2
      refine ⟨⟨k + 1, by omega, by simp, S7⟩, ?_⟩
      simp [intOf]
      omega
    · go_wp2
      exact ⟨rfl, .tuple #[], by kernel_rfl, rfl, S0⟩

section
variable [Sg] {W : World} {J : Nat → Option Obj} {φ : Map} {h : AHeap} {w w' : World}
/-- What was written over is known no more; all else is as it was. -/
theorem spoilt_rel {B n m : Nat} {c : PT Value} {e : TypeId} {x : At} (R : Rel Tryz.prog W 5 J φ h w) (hB : h.m.get B = some (.cells c m e)) (hro : h.ro ≤ B) (hx : φ B = some x) (S : Spoilt x.b n w w') : Rel Tryz.prog W 5 J φ (h.kill B) w' := by
  have Rk := R.kill hx
  obtain ⟨_, h3, h4, h5⟩ := S
  have hk : h.kill B = { h with m := h.m.set B .dead } := by unfold AHeap.kill; rw [if_pos hro]
  refine ⟨h5 W (R.old B x hx hro) R.below, fun D o hD => ?_, Rk.dom, Rk.inj, Rk.old, Rk.fix, fun D y e1 e2 => by rw [h4]; exact Rk.size D y e1 e2, Rk.self, Rk.ro, fun k O hO => ?_, Rk.es⟩
  · obtain ⟨y, hy, ho⟩ := Rk.obj D o hD
    refine ⟨y, hy, ho.later fun hl => h3 _ fun hb => ?_⟩
    rw [hk] at hD
    simp only at hD
    rw [PT.get_set] at hD
    split at hD
    · cases hD; cases hl
    · rename_i hne
      exact hne (R.inj B D x y _ _ hB hD rfl hl hx hy hb.symm)
  · obtain ⟨j1, j2⟩ := Rk.junk k O hO
    exact ⟨by rw [h3 k (fun e => j2 B x hx e.symm)]; exact j1, j2⟩
def spoilO : List Value → AHeap → Option (Value × AHeap) := fun args h => match args with
  | [.slice (some a) len cap] => match h.m.get a.block with
    | some (.cells c n e) => if h.ro ≤ a.block ∧ e = 60 ∧ a.off + cap * 7 ≤ n ∧ cap < 2 ^ 62 then some (.tuple #[], h.kill a.block) else none
    | _ => none
  | _ => none
omit [Sg] in
theorem size60 : ∃ i, Tryz.prog.info? 60 = some i ∧ i.size = 7 := by
  have h : (match Tryz.prog.info? 60 with | some i => Nat.beq i.size 7 | none => false) = true := by kernel_rfl
  cases hi : Tryz.prog.info? 60 with
  | none => rw [hi] at h; cases h
  | some i => rw [hi] at h; exact ⟨i, rfl, Nat.eq_of_beq_eq_true h⟩
theorem spoilO_ok {args args' : List Value} {r : Value} {h' : AHeap} (he : spoilO args h = some (r, h')) (R : Rel Tryz.prog W 5 J φ h w) (ha : VRs φ args args') :
    Calls Tryz.prog 7 args'.toArray w fun en w' => ∃ ψ r', φ.le ψ ∧ en = .returned r' ∧ VR ψ r r' ∧ Rel Tryz.prog W 5 J ψ h' w' := by
  unfold spoilO at he
  split at he
  case h_2 => cases he
  rename_i a len cap
  split at he
  case h_2 => cases he
  rename_i c n e hB
  split at he
  case isFalse => cases he
  rename_i hc
  obtain ⟨hro, rfl, hroom, hcap⟩ := hc
  cases he
  cases ha with | cons h1 h2 => cases h2 with | nil =>
  obtain ⟨x, cap', o, hx, hsp, hl1, hl2, hgr, ho, rfl⟩ := h1.slice_inv
  obtain ⟨y, C, f, E, hy, g1, g0, g2, g3, _⟩ := R.cells hB
  rw [hx] at hy; cases hy
  obtain ⟨rfl, rfl⟩ := g0 hro
  have hcc : cap' < 2 ^ 63 := by rcases hgr with rfl | ⟨_, _, h3⟩ <;> omega
  have hrm : o + cap' * 7 ≤ C.size ∨ cap' = 0 := by
    rcases ho with rfl | ho
    · left
      rcases hgr with rfl | ⟨hg, h3, _⟩
      · omega
      · obtain ⟨i, hi, he⟩ := R.es _ x _ _ _ hx hg hB
        obtain ⟨i', hi', he'⟩ := size60
        rw [hi] at hi'; cases hi'
        rw [he, he'] at h3
        omega
    · exact .inr ho
  refine (spoil_walk x.b o len cap' C.size w (Spoilt.refl g1 rfl) hrm hcc).mono fun en w' hh => ?_
  exact ⟨φ, .tuple #[], φ.le_refl, hh.1, .of_tuples .nil, spoilt_rel R hB hro hx hh.2⟩
end
end Go.Proofs.YtcfmeiejfofgpaaGreatDoor
