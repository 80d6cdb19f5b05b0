/- The blocks that are taken: how many cells they have. -/
import Derived.Test.YtjfohamkkmopgaaGreatDoorHand
namespace Go.Proofs.YtjfohamkkmopgaaGreatDoor
open Go.RowKit Go.Shelf Go.Ab
attribute [local go_sem] Oper.semAt_some
set_option maxRecDepth 100000
set_option maxHeartbeats 2000000
set_option linter.unusedVariables false
set_option linter.unusedSimpArgs false
set_option linter.unusedSectionVars false
theorem arr21 (t : Array Value) (h : t.size = 21) : ∃ x0 x1 x2 x3 x4 x5 x6 x7 x8 x9 x10 x11 x12 x13 x14 x15 x16 x17 x18 x19 x20 : Value, t = #[x0, x1, x2, x3, x4, x5, x6, x7, x8, x9, x10, x11, x12, x13, x14, x15, x16, x17, x18, x19, x20] := by
  obtain ⟨l⟩ := t
  simp only [List.size_toArray] at h
  rcases l with _ | ⟨x0, l⟩
  · simp at h
  rcases l with _ | ⟨x1, l⟩
  · simp at h
  rcases l with _ | ⟨x2, l⟩
  · simp at h
  rcases l with _ | ⟨x3, l⟩
  · simp at h
  rcases l with _ | ⟨x4, l⟩
  · simp at h
  rcases l with _ | ⟨x5, l⟩
  · simp at h
  rcases l with _ | ⟨x6, l⟩
  · simp at h
  rcases l with _ | ⟨x7, l⟩
  · simp at h
  rcases l with _ | ⟨x8, l⟩
  · simp at h
  rcases l with _ | ⟨x9, l⟩
  · simp at h
  rcases l with _ | ⟨x10, l⟩
  · simp at h
  rcases l with _ | ⟨x11, l⟩
  · simp at h
  rcases l with _ | ⟨x12, l⟩
  · simp at h
  rcases l with _ | ⟨x13, l⟩
  · simp at h
  rcases l with _ | ⟨x14, l⟩
  · simp at h
  rcases l with _ | ⟨x15, l⟩
  · simp at h
  rcases l with _ | ⟨x16, l⟩
  · simp at h
  rcases l with _ | ⟨x17, l⟩
  · simp at h
  rcases l with _ | ⟨x18, l⟩
  · simp at h
  rcases l with _ | ⟨x19, l⟩
  · simp at h
  rcases l with _ | ⟨x20, l⟩
  · simp at h
  rcases l with _ | ⟨y, l⟩
  · exact ⟨x0, x1, x2, x3, x4, x5, x6, x7, x8, x9, x10, x11, x12, x13, x14, x15, x16, x17, x18, x19, x20, rfl⟩
  · simp at h
variable [Sg]
/-- alloc.Blocks: the allocator is boxed; the function value captures the box. -/
theorem blocks_in (F : Fence) (n : Nat) (h : F.fn 66) (hro : F.round = none) (v : Value) (w : World) (hv : ∃ a, v = .pointer a) :
    CallsIn F n Tryz.prog 66 #[v] w fun e w' => e = .returned (.func (.func 116) #[] #[.pointer (some ⟨w.heap.size, 0, none⟩)]) ∧ w' = w.alloc (.cells #[v] 93) := by
  obtain ⟨a, rfl⟩ := hv
  refine callsIn_of_wp Tryz.func66 rfl h ?_ hro
  simp only [Tryz.ntmps66, List.size_toArray, List.length_cons, List.length_nil, Nat.reduceAdd, Nat.reduceSub, Array.replicate_succ, Array.replicate_zero, List.push_toArray, List.append_toArray, List.nil_append, List.cons_append]
  gi_wp2
  go_ret
  exact ⟨rfl, rfl⟩
noncomputable section
def c116 : Code := (Tryz.f116.body).getD .skip
def g116 : Nat → Bool := inMask (Nat.lor (expoC c116) (expoV Tryz.f116.results.toList))
def obU : PO := ⟨[(0, i64 27), (1, i64 1), (2, i64 64)], 3, 174⟩
def obsUd : List PO := [⟨[(3, slcC 6 1 1)], 4, 256⟩, obU]
def heapUd : AHeap := ⟨(heapP 5 obsUd).m.set 7 (.cells (PT.nil.set 0 (ptrV 5)) 1 93), 8, 8⟩
def nmU (t : Nat) (e : E3) (_ : AHeap) : List Nat := [((lkd e t).bind nameOf).getD 0]
theorem blocks1 {φ : Map} (l B : Nat) (W : World) (hbx : φ 7 = some ⟨B, 0, 0, 1, false⟩) (R : Rel Tryz.prog W 5 (fun _ => none) φ heapUd W) (Kp : World → World → Prop) (J Jx : List Unit → World → Prop) (hJ : AbidesFrom W.heap.size J)
    (hY : ∀ pre x W1, J pre W1 → pre.length < 1 → YieldAt Fence.wide 1 Tryz.prog l #[.agg #[i64 27, i64 1, i64 64]] W1 fun e W' => (e = .returned (.bool true) ∧ J (pre ++ [x]) W' ∧ Kp W1 W') ∨ (e = .returned (.bool false) ∧ Jx (pre ++ [x]) W')) (h0 : J [] W) :
    CallsIn Fence.wide 2 Tryz.prog 116 #[.func (.yield l) #[] #[], .pointer (some ⟨B, 0, none⟩)] W fun e W' => (∃ v, e = .returned v) ∧ ((∃ xs, xs = [()] ∧ J xs W') ∨ ∃ pre, True ∧ Jx pre W') := by
  refine callsIn_of_wp Tryz.func116 rfl trivial ?_ rfl
  simp only [Tryz.ntmps116, List.size_toArray, List.length_cons, List.length_nil, Nat.reduceAdd, Nat.reduceSub, Array.replicate_succ, Array.replicate_zero, List.push_toArray, List.append_toArray, List.nil_append, List.cons_append]
  refine wpIn_seq (wpIn_wide.2 (wp_mono (part_wp (n := 21) ext_ok names_ok mixed (good0 W) le0 (L := 100000) (by kernel_rfl) (G := g116) R rfl rfl (env := [(0, .func (.yield l) #[] #[]), (1, ptrV 7)]) (fun t u h => ?_) (nm := nmU 10) (obs' := [obU]) (env' := [(10, slcC 5 1 1), (11, i64 1), (12, i64 0)]) (by kernel_rfl) (t0 := 0) (v0 := .func (.yield l) #[] #[]) (by kernel_rfl)) ?_))
  · simp only [List.mem_cons, List.mem_nil_iff, or_false, Prod.mk.injEq] at h
    rcases h with ⟨rfl, rfl⟩ | ⟨rfl, rfl⟩
    · exact ⟨_, rfl, .func rfl (fun i h => by simp at h) rfl (fun i h => by simp at h)⟩
    · exact ⟨_, rfl, VR.ptr (a := ⟨7, 0, none⟩) hbx rfl⟩
  rintro y ⟨tm, df⟩ W1 ⟨rfl, hdf, hsz, hB1, ⟨χ, y0, hy0, hv0⟩, ψ, R1, hE⟩
  simp only at hdf hsz hy0 hE
  subst hdf
  have yv : ∀ (χ : Map) (u : Value), VR χ (.func (.yield l) #[] #[]) u → u = .func (.yield l) #[] #[] := by
    intro χ u h
    obtain ⟨p', c', rfl, h1, h2⟩ := h.func_inv
    have e1 : p' = #[] := Array.size_eq_zero_iff.1 (by have := h1.length; simpa using this.symm)
    have e2 : c' = #[] := Array.size_eq_zero_iff.1 (by have := h2.length; simpa using this.symm)
    rw [e1, e2]
  obtain rfl := yv _ _ hv0
  obtain ⟨y11, e11, v11⟩ := hE 11 (i64 1) (by simp)
  obtain rfl := v11.flat_inv rfl
  obtain ⟨y12, e12, v12⟩ := hE 12 (i64 0) (by simp)
  obtain rfl := v12.flat_inv rfl
  obtain ⟨y10, e10, v10⟩ := hE 10 (slcC 5 1 1) (by simp)
  have hJ1 : J [] W1 := hJ [] W W1 none h0 ⟨hB1.os, hB1.tape, hB1.output, hB1.size, fun k hk _ => hB1.block k hk⟩ (fun r e => by cases e)
  show Code.wpIn _ _ _ _ _ _ _
  refine wpIn_block (wpIn_loop (fun a w => (a = ⟨tm, []⟩ ∧ w = W1) ∨ (a.defers = [] ∧ a.tmps.size = 21 ∧ a.tmps[11]? = some (.int .i64 1) ∧ a.tmps[12]? = some (.int .i64 1) ∧ J [()] w)) (fun a _ => 1 - (intOf ((a.tmps[12]?).getD undef)).toNat) (.inl ⟨rfl, rfl⟩) ?_)
  rintro a w (⟨rfl, rfl⟩ | ⟨hd, hsz2, e11', e12', hJ2⟩)
  · obtain ⟨x0, x1, x2, x3, x4, x5, x6, x7, x8, x9, x10, x11, x12, x13, x14, x15, x16, x17, x18, x19, x20, rfl⟩ := arr21 tm hsz
    simp only [List.getElem?_toArray, List.getElem?_cons_succ, List.getElem?_cons_zero, Option.some.injEq] at hy0 e10 e11 e12
    subst hy0 e10 e11 e12
    have q0 : i64 0 = .int .i64 0 := rfl
    have q1 : i64 1 = .int .i64 1 := rfl
    rw [q0, q1]
    obtain ⟨xx, cap', o, hxx, _, l1, l2, _, l4, rfl⟩ := v10.slice_inv
    have ho : o = xx.d := by
      rcases l4 with h | h
      · rw [h]; exact Nat.zero_add _
      · omega
    subst ho
    obtain ⟨y, hy, C, f, E, c1, _, c2, c3, c4⟩ := R1.obj 5 _ (show (heapP 5 [obU]).m.get 5 = some (PO.obj obU) from rfl)
    rw [hxx] at hy; cases hy
    obtain ⟨w0, g0, r0⟩ := c4 0 (i64 27) (by decide) (by rfl)
    obtain rfl := r0.flat_inv rfl
    obtain ⟨w1, g1, r1⟩ := c4 1 (i64 1) (by decide) (by rfl)
    obtain rfl := r1.flat_inv rfl
    obtain ⟨w2, g2, r2⟩ := c4 2 (i64 64) (by decide) (by rfl)
    obtain rfl := r2.flat_inv rfl
    have m0 : w.cell? ⟨xx.b, xx.d, none⟩ = some (.int .i64 27) := by rw [cell_of c1]; exact g0
    have m1 : w.cell? ⟨xx.b, xx.d + 1, none⟩ = some (.int .i64 1) := by rw [cell_of c1]; exact g1
    have m2 : w.cell? ⟨xx.b, xx.d + 2, none⟩ = some (.int .i64 64) := by rw [cell_of c1]; exact g2
    have hJ2 : J [] (w.alloc (.cells #[.int .i64 27, .int .i64 1, .int .i64 64] 174)) := hJ [] _ _ none hJ1 (World.grownBy_alloc _ _ none) (fun r e => by cases e)
    obtain ⟨fn, tmps, assign, body, hy, hR⟩ := hY [] () _ hJ2 (by simp)
    rw [show i64 27 = .int .i64 27 from rfl, show i64 64 = .int .i64 64 from rfl, q1] at hy
    gi_wp2
    refine hR.mono ?_
    rintro e W3 (⟨rfl, hJ3, _⟩ | ⟨rfl, hJx3⟩)
    · gi_wp2
      exact ⟨.inr ⟨trivial, rfl, rfl, rfl, hJ3⟩, by simp [intOf]⟩
    · gi_wp2
      refine bodyPost_ret (results_none rfl _ _ _) rfl ?_
      exact ⟨⟨_, rfl⟩, .inr ⟨_, trivial, hJx3⟩⟩
  · obtain ⟨tm2, df2⟩ := a
    simp only at hd hsz2 e11' e12'
    subst hd
    obtain ⟨x0, x1, x2, x3, x4, x5, x6, x7, x8, x9, x10, x11, x12, x13, x14, x15, x16, x17, x18, x19, x20, rfl⟩ := arr21 tm2 hsz2
    simp only [List.getElem?_toArray, List.getElem?_cons_succ, List.getElem?_cons_zero, Option.some.injEq] at e11' e12'
    subst e11' e12'
    gi_wp2
    go_end0
    exact ⟨⟨_, rfl⟩, .inl ⟨_, rfl, hJ2⟩⟩
theorem used32_told : FnToldR Tryz.prog 5 32 obsUd [ptrV 5] (i64 1) := by
  intro w φ0 args' R ha
  cases ha with | cons h1 h2 => cases h2 with | nil =>
  obtain ⟨x, hx, _, rfl⟩ := h1.ptr_inv
  refine (callsIn_wide (n := 3)).1 (callsIn_of_wp_marks Tryz.func32 rfl trivial ?_)
  simp only [Tryz.ntmps32, List.size_toArray, List.length_cons, List.length_nil, Nat.reduceAdd, Nat.reduceSub, Array.replicate_succ, Array.replicate_zero, List.push_toArray, List.append_toArray, List.nil_append, List.cons_append]
  gi_wp2_with (refine ⟨trivial, ?_⟩; gi_at_call 66; refine (blocks_in Fence.wide 2 trivial rfl _ _ ⟨_, rfl⟩).mono ?_; rintro e w' ⟨rfl, rfl⟩)
  have hs := cell_newV w (.int .i64 0) 3
  have hb : ((w.alloc (.cells #[.int .i64 0] 3)).alloc (.cells #[.pointer (some ⟨x.b, x.d, none⟩)] 93)).heap[w.heap.size + 1]? = some (.cells #[.pointer (some ⟨x.b, x.d, none⟩)] 93 (0, 0)) := by
    have := World.alloc_heap_new (w.alloc (.cells #[.int .i64 0] 3)) (.cells #[.pointer (some ⟨x.b, x.d, none⟩)] 93)
    rwa [World.size_alloc] at this
  have hB0 : Below w.heap.size w ((w.alloc (.cells #[.int .i64 0] 3)).alloc (.cells #[.pointer (some ⟨x.b, x.d, none⟩)] 93)) := ((Below.refl _ w).alloc (Nat.le_refl _) _).alloc (by simp) _
  have hseq : SeqStopsK Fence.wide 2 Tryz.prog 116 #[.pointer (some ⟨w.heap.size + 1, 0, none⟩)] (fun x : Unit => #[.agg #[.int .i64 27, .int .i64 1, .int .i64 64]]) (Below w.heap.size) (fun xs => xs = [()]) (fun _ => True) 1 ((w.alloc (.cells #[.int .i64 0] 3)).alloc (.cells #[.pointer (some ⟨x.b, x.d, none⟩)] 93)) := by
    intro l J Jx W hW hJ hJx hY h0
    have hBW : Below w.heap.size w W := hB0.trans (hW.mono (by simp; omega))
    have hbW : W.heap[w.heap.size + 1]? = some (.cells #[.pointer (some ⟨x.b, x.d, none⟩)] 93 (0, 0)) := by rw [hW.block _ (by simp)]; exact hb
    have R1 := (R.later hBW).frozen
    obtain ⟨ψ, hle, hN, R2⟩ := R1.adopt (N := 7) hbW (fun B o x' h1 h2 => by have := R.live_lt h1 (heapP_live h1) h2; omega) (by decide) (v := ptrV 5) (by have := h1; rwa [Nat.zero_add] at this)
    exact blocks1 l _ W hN R2 _ J Jx hJ hY h0
  refine wpIn_rangeFunc_ownH rfl (by decide) (gf := 116) (lb := #[.pointer (some ⟨w.heap.size + 1, 0, none⟩)]) rfl trivial (enters_of Tryz.func116 (by kernel_rfl) rfl)
    hseq belowK_t (belowK_b (by simp; omega)) (Below.refl _ _) (fun x => rfl)
    (fun pre W => (W.cell? ⟨w.heap.size, 0, none⟩ = some (.int .i64 pre.length) ∧ W.frozen? ⟨w.heap.size, 0, none⟩ = false) ∧ Below w.heap.size w W)
    (fun _ _ _ => False)
    (OwnFrom.and (Own.from (fun s A B row hs hg hr => ⟨cell_kept hs.1 hg hr, (frozen_kept hs.1 hg hr).trans hs.2⟩) _) (ownFrom_below (Nat.le_refl _) (by simp; omega)))
    (fun _ _ _ _ _ hs _ _ => hs)
    ⟨⟨cell_allocV _ hs.1, frozen_allocV _ hs.1 hs.2⟩, hB0⟩
    (fun _ a' W => ∃ Bx, W.heap[Bx]? = some (.cells #[.int .i64 27, .int .i64 1, .int .i64 64] 174 (0, 0)) ∧
      a' = { tmps := #[.pointer (some ⟨x.b, x.d, none⟩), undef, .int .i64 0, .pointer (some ⟨w.heap.size, 0, none⟩), .pointer (some ⟨Bx, 0, none⟩), .pointer (some ⟨x.b, x.d, none⟩), .func (.func 116) #[] #[.pointer (some ⟨w.heap.size + 1, 0, none⟩)], .agg #[.int .i64 27, .int .i64 1, .int .i64 64], undef, undef, undef, undef, undef], defers := [] })
    ?hax ?assign ?body ?done ?stop
  case hax =>
    rintro _ a' _ A B row ⟨Bx, h2, h3⟩ hg hr
    refine ⟨Bx, ?_, h3⟩
    have hlt : Bx < A.heap.size := (Array.getElem?_eq_some_iff.1 h2).1
    by_cases e : row = some Bx
    · obtain ⟨_, o, ho, hc⟩ := hr Bx e
      rw [h2] at ho; cases ho; cases hc
    · rw [hg.block Bx hlt (fun e' => e e'.symm)]; exact h2
  case assign =>
    intro l pre x' W K hi hK
    gi_wp2
    refine hK _ _ ((KeepsOthers.alloc _ _).from _) ((Below.refl _ W).alloc hi.2.size _) ⟨⟨cell_allocV _ hi.1.1, frozen_allocV _ hi.1.1 hi.1.2⟩, hi.2.alloc hi.2.size _⟩ ⟨W.heap.size, World.alloc_heap_new W _, rfl⟩
  case body =>
    rintro l pre x' a' W hl ⟨r, hr⟩ ⟨⟨hc, hf⟩, hB⟩ ⟨Bx, hbx, rfl⟩ hlt
    obtain rfl : pre = [] := by cases pre with | nil => rfl | cons => simp at hlt
    have m1 : W.cell? ⟨Bx, 1, none⟩ = some (.int .i64 1) := by rw [cell_of hbx]; rfl
    have hc0 : W.cell? ⟨w.heap.size, 0, none⟩ = some (.int .i64 0) := hc
    gi_wp2
    exact ⟨(KeepsOthers.setCell _ _ _).from _, (Below.refl w.heap.size W).setCell (p := ⟨w.heap.size, 0, none⟩) (Nat.le_refl _) _, ⟨World.cell?_setCell_same' _ _ _ (by rw [hc0]; rfl), by rw [World.frozen?_setCell]; exact hf⟩, hB.setCell (p := ⟨w.heap.size, 0, none⟩) (Nat.le_refl _) _⟩
  case done =>
    rintro D ys W hD rfl ⟨⟨hc, _⟩, hB⟩ hK
    have hc0 : W.cell? ⟨w.heap.size, 0, none⟩ = some (.int .i64 1) := hc
    gi_wp2
    refine ⟨by simp, .inl ⟨_, _, rfl, run_takeDeferred hK, ?_⟩⟩
    exact ⟨_, results_tmp rfl _ _ _, _, rfl, .inl ⟨rfl, rfl⟩, hB.trans (belowK_b (w := w) (Nat.le_refl _) W D _ _ (by simp at hD; omega) hK rfl rfl)⟩
  case stop =>
    rintro D c pre W _ _ h _
    exact h.elim
def nmU32 (args : List Value) (h : AHeap) : List Nat := match args with
  | .pointer (some a) :: _ => [a.block, cellN h a.block 3]
  | _ => []
def tsU32 : List (FuncId × TR) := [(32, ⟨obsUd, [ptrV 5], nmU32, i64 1⟩)]
theorem tsU32_ok : ∀ f t, tsU32.lookup f = some t → FnToldR Tryz.prog 5 f t.obs t.args t.u := by
  intro f t h
  unfold tsU32 at h
  simp only [List.lookup] at h
  split at h
  · rename_i e; cases h; rw [eq_of_beq e]; exact used32_told
  · cases h
def callU : ACall := evalF Tryz.prog 5 X (toldR 5 tsU32 call0F) (fun _ => true) 100000 30
theorem goodU (W : World) : CallGood Tryz.prog W 5 callU := evalF_good ext_ok names_ok (toldR_ok tsU32_ok (good0F W)) codes_ok mixed 30
def obsMU : List PO := [⟨[(1008, ptrV 6)], 1021, 102⟩, ⟨[(3, slcC 7 1 1)], 4, 256⟩, obU]
theorem used_run : gives (callU 16 [ptrV 5] (heapP 5 obsMU)) (i64 1) = true := by kernel_rfl
theorem used_told : FnToldR Tryz.prog 5 16 obsMU [ptrV 5] (i64 1) := toldR_of goodU rfl used_run
end
end Go.Proofs.YtjfohamkkmopgaaGreatDoor
