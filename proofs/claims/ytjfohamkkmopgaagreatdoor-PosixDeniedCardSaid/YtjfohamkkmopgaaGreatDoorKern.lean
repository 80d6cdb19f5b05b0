/- kern.New, told. The machine's answer to a call with a handle that is none, or of a number that is none. -/
import Derived.Test.YtjfohamkkmopgaaGreatDoorKa
import Derived.Test.YtjfohamkkmopgaaGreatDoorKb
import Derived.Test.YtjfohamkkmopgaaGreatDoorKc
import Derived.Test.YtjfohamkkmopgaaGreatDoorKd
import Derived.Test.YtjfohamkkmopgaaGreatDoorKe
import Derived.Test.YtjfohamkkmopgaaGreatDoorKernD
namespace Go.Proofs.YtjfohamkkmopgaaGreatDoor
open Go.Ab Go
set_option maxRecDepth 100000
set_option linter.unusedSectionVars false
noncomputable section
theorem flatN : flatC cN = preN ++ Code.region 11 opsN1 true :: (midN ++ Code.region 14 opsN2 true :: (postN5 ++ (postN6 ++ (postN7 ++ postN)))) := by kernel_rfl
theorem preNOk : preN.all (codeOk Tryz.f18.ntmps) = true := by kernel_rfl
theorem midNOk : midN.all (codeOk Tryz.f18.ntmps) = true := by kernel_rfl
theorem post5Ok : postN5.all (codeOk Tryz.f18.ntmps) = true := by kernel_rfl
theorem post6Ok : postN6.all (codeOk Tryz.f18.ntmps) = true := by kernel_rfl
theorem post7Ok : postN7.all (codeOk Tryz.f18.ntmps) = true := by kernel_rfl
theorem postNOk : postN.all (codeOk Tryz.f18.ntmps) = true := by kernel_rfl
theorem draw1Ok : codeOk Tryz.f18.ntmps (.region 11 opsN1 true) = true := by kernel_rfl
theorem draw2Ok : codeOk Tryz.f18.ntmps (.region 14 opsN2 true) = true := by kernel_rfl
theorem bodyCN : Tryz.f18.body = some cN := by kernel_rfl
variable (d : Den) (p : Nat)
theorem opsN2_size : opsN2.size = 15 := by kernel_rfl
theorem mixN2 : mixOk opsN2 = true := by kernel_rfl
theorem rest {f : Nat → Bool} {a b : Nat} (h : ((List.range 15).all fun j => Nat.beq j a || (Nat.beq j b || f j)) = true) (ha : f a = true) (hb : f b = true) (j : Nat) (hj : j < 15) : f j = true := by
  have := List.all_eq_true.1 h j (List.mem_range.2 hj)
  simp only [Bool.or_eq_true] at this
  rcases this with h1 | h1 | h1
  · rw [Nat.eq_of_beq_eq_true h1]; exact ha
  · rw [Nat.eq_of_beq_eq_true h1]; exact hb
  · exact h1
theorem kDraw2 : letI := deI d p; drawB Tryz.prog 5 X call0F opsN2 [3, 4, 5, 10] pN4 stN3 stN4 = true := by
  letI := deI d p
  have h0 : 0 < opsN2.size := by rw [opsN2_size]; decide
  refine drawN_of mixN2 (drawP_step h0 fun j hj => ?_)
  rw [opsN2_size] at hj
  refine rest (f := fun j => dN2 [j]) (kdr d p) (drawP_step (pre := [1]) h0 fun i hi => ?_) (drawP_step (pre := [7]) h0 fun i hi => ?_) j hj
  · rw [opsN2_size] at hi
    exact rest (f := fun i => dN2 [1, i]) (kd1r d p) (kd14 d p) (drawP_step (pre := [1, 7]) h0 fun i hi => by
      rw [opsN2_size] at hi
      exact rest (f := fun i => dN2 [1, 7, i]) (kd17r d p) (kd174 d p) (kd170 d p) i hi) i hi
  · rw [opsN2_size] at hi
    exact rest (f := fun i => dN2 [7, i]) (kd7r d p) (drawP_step (pre := [7, 1]) h0 fun i hi => by
      rw [opsN2_size] at hi
      exact rest (f := fun i => dN2 [7, 1, i]) (kd71r d p) (kd714 d p) (kd71t d p) i hi) (kd710 d p) i hi
theorem kern_told : letI := deI d p; FnToldS Tryz.prog 5 5 18 ⟨[], obsN0⟩ argsN uN stN9 := by
  letI := deI d p
  refine entryS_ok Tryz.func18 bodyCN (by decide +kernel) (by decide +kernel) fun W J φ0 => ?_
  rw [flatN]
  refine seg_ok (J := J) ext_ok names_ok (goodN W) mixed preNOk (codeK_ok leN _) (kPre d p) ?_
  intro a w hst
  refine draw_ok (J := J) ext_ok names_ok (good0F W) mixed draw1Ok (kDraw1 d p) (fun a w hst => ?_) a w hst
  refine seg_ok (J := J) ext_ok names_ok (goodN W) mixed midNOk (codeK_ok leN _) (kMid d p) ?_ a w hst
  intro a w hst
  refine draw_ok (J := J) ext_ok names_ok (good0F W) mixed draw2Ok (kDraw2 d p) (fun a w hst => ?_) a w hst
  refine seg_ok (J := J) ext_ok names_ok (goodN W) mixed post5Ok (codeK_ok leN _) (k5 d p) ?_ a w hst
  refine seg_ok (J := J) ext_ok names_ok (goodN W) mixed post6Ok (codeK_ok leN _) (k6 d p) ?_
  refine seg_ok (J := J) ext_ok names_ok (goodN W) mixed post7Ok (codeK_ok leN _) (k7 d p) ?_
  intro a w hst
  exact finL_ok (J := J) ext_ok names_ok (goodN W) mixed (fun c hc => List.all_eq_true.1 postNOk c hc) (codeK_ok leN _) (kFin d p) a w hst
end
end Go.Proofs.YtjfohamkkmopgaaGreatDoor
namespace Go.Proofs.YtjfohamkkmopgaaGreatDoor
open Go.Ab Go
set_option maxRecDepth 100000
set_option linter.unusedSectionVars false
noncomputable section
/-- What cell o of a block leads to. -/
def cellN (h : AHeap) (b o : Nat) : Nat := match fget h.m b with
  | some (.cells c _ _) => ((fget c o).bind nameOf).getD 0
  | _ => 0
def nmOf (args : List Value) (h : AHeap) : List Nat := match args with
  | .pointer (some a) :: _ => [a.block, cellN h a.block 0]
  | _ => []
def nmRef (args : List Value) (h : AHeap) : List Nat := match args with
  | .pointer (some m) :: .pointer (some t) :: _ => [m.block, cellN h m.block 2, cellN h m.block 1013, cellN h (cellN h m.block 1013) 0, t.block, cellN h t.block 1]
  | _ => []
def obRows : PO := ⟨(reps 64 [u64 0, u64 0, i64 0, u64 0]).zipIdx.map fun p => (p.2, p.1), 256, 169⟩
def obsOf : List PO := [⟨[(0, slcC 6 64 64)], 1, 167⟩, obRows]
def rowsR : List Value := [i64 0, i64 1, i64 2, i64 3, i64 4, i64 5, i64 6, i64 7, i64 8, i64 0, i64 9, i64 10, i64 11, i64 12, i64 13, i64 14, i64 0, i64 0, i64 0, i64 0, i64 15, i64 16, i64 17, i64 18, i64 19, i64 20, i64 21, i64 0, i64 0, i64 0, i64 22, i64 23, i64 0, i64 0, i64 0, i64 0, i64 0, i64 0, i64 0, i64 0, i64 24, i64 25, i64 26, i64 0, i64 0, i64 0, i64 0, i64 0, i64 0, i64 0, i64 27, i64 28, i64 29, i64 30, i64 31, i64 32, i64 33, i64 34, i64 35, i64 0, i64 36, i64 37, i64 38, i64 39, i64 40, i64 41, i64 0, i64 0, i64 0, i64 0, i64 42, i64 43, i64 44, i64 45] ++ rep 926 (i64 0)
def obsRef : List PO := [⟨[(2, slcC 6 45 45), (5, i64 2), (6, i64 0), (1013, ptrV 7)] ++ (rowsR.zipIdx.map fun p => (7 + p.2, p.1)), 1021, 102⟩,
  ⟨callsV.zipIdx.map fun p => (p.2, p.1), 270, 125⟩, ⟨[(0, slcC 8 64 64)], 1, 167⟩, obRows, ⟨[(1, slcC 10 1 1)], 3, 157⟩, ⟨[], 1, 160⟩]
/-- The numbers with kinds, of those without. -/
def ksA : List Nat := [11, 12, 13, 14, 15, 21, 22, 23, 24, 25, 26, 31, 41, 42, 51, 52, 53, 54, 55, 56, 57, 58, 61, 62, 63, 64, 65, 70, 71, 72, 73]
def ksC : List Nat := [1, 2, 3, 4, 5, 6, 7, 8, 10, 20, 30, 40, 50, 60]
def ksB : List Nat := (List.range 1000).filter fun k => !((ksA ++ ksC).any fun j => Nat.beq j k)
def tsOf : List (FuncId × TR) := [(200, ⟨obsOf, [ptrV 5, sy 2], nmOf, .pointer none⟩)]
variable [Sg]
def callRF : ACall := evalF Tryz.prog 5 X (toldR 5 tsOf call0F) (fun _ => true) 100000 30
def argsRef (k : Value) : List Value := [ptrV 5, ptrV 9, k, .agg #[sy 2, sy 2, sy 2, u64 0]]
def tsRef : List (FuncId × TR) := [(157, ⟨obsRef, argsRef (sy 0), nmRef, sy 3⟩)]
def orcP : Orc := toldR 5 tsRef call0F
end
end Go.Proofs.YtjfohamkkmopgaaGreatDoor
