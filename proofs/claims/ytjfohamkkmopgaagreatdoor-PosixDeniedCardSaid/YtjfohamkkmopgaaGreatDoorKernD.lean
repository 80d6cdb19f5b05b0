/- code.Check over the library's code, told. mem.New, told. kern.New: the states between its parts. -/
import Derived.Test.YtjfohamkkmopgaaGreatDoorCk0
import Derived.Test.YtjfohamkkmopgaaGreatDoorCk1
import Derived.Test.YtjfohamkkmopgaaGreatDoorKit
import Derived.Test.YtjfohamkkmopgaaGreatDoorAbT
namespace Go.Proofs.YtjfohamkkmopgaaGreatDoor
open Go.Ab
set_option maxRecDepth 100000
set_option linter.unusedSectionVars false
noncomputable section
variable [Sg]
theorem flatK : flatC cK = preK ++ Code.block 0 (.loop bodyK) :: postK := by kernel_rfl
theorem bodyKOk : codeOk Tryz.f124.ntmps bodyK = true := by kernel_rfl
theorem preKOk : preK.all (codeOk Tryz.f124.ntmps) = true := by kernel_rfl
theorem postKOk : postK.all (codeOk Tryz.f124.ntmps) = true := by kernel_rfl
theorem bodyCK : Tryz.f124.body = some cK := by kernel_rfl
theorem check_told : FnToldS Tryz.prog 5 6 124 ⟨[], [libO]⟩ argK .nilIface stKZ := by
  refine entryS_ok Tryz.func124 bodyCK (by decide +kernel) (by decide +kernel) fun W J φ0 => ?_
  rw [flatK]
  refine seg_ok (J := J) ext_ok names_ok (good0 W) mixed preKOk (codeK_ok le0 _) ckPre ?_
  refine loop_ok (J := J) (s2 := stK 630) ext_ok names_ok (good0 W) mixed bodyKOk (codeK_ok le0 _) (fun Q hq => ?_) ckL (finL_ok (J := J) ext_ok names_ok (good0 W) mixed (fun c hc => List.all_eq_true.1 postKOk c hc) (codeK_ok le0 _) ckFin)
  have step : ∀ {s s' : CS} {m : Nat}, chunkN 5 6 gK fK1 [.lit 5] s m s' = true → (∀ a w, St Tryz.prog W 5 6 J φ0 Tryz.f124.ntmps (envC s') (heapC 5 s') a w → LoopWp Tryz.prog bodyK Q a w) → ∀ a w, St Tryz.prog W 5 6 J φ0 Tryz.f124.ntmps (envC s) (heapC 5 s) a w → LoopWp Tryz.prog bodyK Q a w :=
    fun hb hq => chunk_ok (J := J) ext_ok names_ok (good0 W) mixed bodyKOk (codeK_ok le0 _) hb hq
  exact step ck0 (step ck210 (step ck420 hq))
end
end Go.Proofs.YtjfohamkkmopgaaGreatDoor
namespace Go.Proofs.YtjfohamkkmopgaaGreatDoor
open Go.Ab
set_option maxRecDepth 100000
set_option linter.unusedSectionVars false
noncomputable section
variable [Sg]
def cM : Code := (Tryz.f87.body).getD .skip
def segM : List Code := flatC cM
def preM : List Code := segM.take 3
noncomputable def opsOf (c : Option Code) : Array Oper := match c with
  | some (.region _ ops _) => ops
  | _ => #[]
def opsM : Array Oper := opsOf segM[3]?
def postM : List Code := segM.drop 4
def gM : Nat → Bool := inMask (Nat.lor (expoC cM) (expoV Tryz.f87.results.toList))
def fM0 : E3 → AHeap → (E3 → AHeap → OutK) → OutK := (codeK Tryz.prog 5 X call0 gM 100000 (seqOf preM)).run
def fM2 : E3 → AHeap → (E3 → AHeap → OutK) → OutK := (codeK Tryz.prog 5 X call0 gM 100000 (seqOf postM)).run
def call0A : ACall := evalFn Tryz.prog 5 X (fun _ => none) (fun _ => true) 100000 30
def stM0 : CS := ⟨[i64 100].zipIdx.map fun p => (p.2, p.1), []⟩
def stM1 : CS := ⟨[(0, i64 100)], []⟩
def memO : List CO := [.cells [slcC 6 100 100, slcC 7 100 100, i64 0, i64 0] 272, .cells (rep 100 (u64 0)) 43, .cells (rep 100 (u8 0)) 5]
def stM2 : CS := ⟨[(2, ptrV 5), (3, .nilIface)], memO⟩
def stMZ : CS := ⟨[], memO⟩
theorem flatM : flatC cM = preM ++ Code.region 3 opsM true :: postM := by kernel_rfl
theorem preMOk : preM.all (codeOk Tryz.f87.ntmps) = true := by kernel_rfl
theorem drawMOk : codeOk Tryz.f87.ntmps (.region 3 opsM true) = true := by kernel_rfl
theorem postMOk : postM.all (codeOk Tryz.f87.ntmps) = true := by kernel_rfl
theorem bodyCM : Tryz.f87.body = some cM := by kernel_rfl
theorem memPre : reachB 5 gM fM0 [] stM0 stM1 = true := by kernel_rfl
theorem memDraw : drawB Tryz.prog 5 X call0A opsM [2, 3] [.env 2, .cell 0 0, .cell 0 1] stM1 stM2 = true := by kernel_rfl
theorem memFin : finB Tryz.prog 5 gM fM2 Tryz.f87.results.toList [.res 0, .cell 0 0, .cell 0 1] stM2 (.tuple #[ptrV 5, .nilIface]) stMZ = true := by kernel_rfl
theorem mem_told : FnTold Tryz.prog 5 87 [i64 100] (.tuple #[ptrV 5, .nilIface]) stMZ := by
  refine entry_ok (s0 := stM0) Tryz.func87 bodyCM rfl (by decide +kernel) fun W J φ0 => ?_
  rw [flatM]
  refine seg_ok (J := J) ext_ok names_ok (good0 W) mixed preMOk (codeK_ok le0 _) memPre ?_
  intro a w hst
  refine draw_ok (J := J) ext_ok names_ok (good0 W) mixed drawMOk memDraw (fun a w hst => ?_) a w hst
  exact finL_ok (J := J) ext_ok names_ok (good0 W) mixed (fun c hc => List.all_eq_true.1 postMOk c hc) (codeK_ok le0 _) memFin a w hst
end
end Go.Proofs.YtjfohamkkmopgaaGreatDoor
namespace Go.Proofs.YtjfohamkkmopgaaGreatDoor
open Go.Ab Go
set_option maxRecDepth 100000
set_option linter.unusedSectionVars false
noncomputable section
def obsN0 : List CO := [.cells libCells 57,
  .cells callsV 125,
  .cells progCells 57]
def argsN : List Value := [.agg #[i64 1, i64 100], .agg #[slcC 5 818 818, i64 90, slcC 6 45 45], .agg #[slcC 7 5 5, i64 0, i64 2, i64 0]]
def pN1 : List Path := [.env 3, .env 4, .env 5, .cell 1 0, .cell 1 2, .cell 2 0]
def stN1 : CS := ⟨[(3, ptrV 5), (4, ptrV 6), (5, ptrV 7)], [.cells ([i64 1, i64 100]) 30,
  .cells ([slcC 8 818 818, i64 90, slcC 9 45 45]) 66,
  .cells ([slcC 10 5 5, i64 0, i64 2, i64 0]) 39,
  .cells libCells 57,
  .cells callsV 125,
  .cells progCells 57]⟩
def pN2 : List Path := [.env 3, .env 4, .env 5, .env 10, .cell 1 0, .cell 1 2, .cell 2 0, .cell 3 1009, .cell 3 1014, .cell 3 1015, .cell 7 1, .cell 7 2, .cell 10 1]
def stN2 : CS := ⟨[(3, ptrV 5), (4, ptrV 6), (5, ptrV 7), (10, ptrV 8)], [.cells ([i64 1, i64 100]) 30,
  .cells ([slcC 9 818 818, i64 90, slcC 10 45 45]) 66,
  .cells ([slcC 11 5 5, i64 0, i64 2, i64 0]) 39,
  .cells ([.slice none 0 0, i64 0, .slice none 0 0, .slice none 0 0] ++ rep 1003 (i64 0) ++ [.pointer none, .pointer none, ptrV 12, .pointer none, .pointer none, .pointer none, .pointer none, .map (some 13), slcC 14 1 1, i64 0, i64 0, i64 0, u64 0, .slice none 0 0]) 102,
  .cells libCells 57,
  .cells callsV 125,
  .cells progCells 57,
  .cells ([u64 0, ptrV 15, .map (some 16)]) 193,
  .map [] 0,
  .cells ([u64 0, u64 0, .bool false, i64 0, i64 0] ++ rep 32 (u64 0) ++ [.slice none 0 0]) 109,
  .cells ([.slice none 0 0, .map (some 17), i64 0]) 269,
  .map [] 0,
  .map [] 0]⟩
def pN3 : List Path := [.env 3, .env 4, .env 5, .env 10, .cell 1 0, .cell 1 2, .cell 2 0, .cell 3 1009, .cell 3 1014, .cell 3 1015, .cell 7 1, .cell 7 2, .cell 10 1]
def stN3 : CS := ⟨[(3, ptrV 5), (4, ptrV 6), (5, ptrV 7), (10, ptrV 8)], [.cells ([i64 1, i64 100]) 30,
  .cells ([slcC 9 818 818, i64 90, slcC 10 45 45]) 66,
  .cells ([slcC 11 5 5, i64 0, i64 2, i64 0]) 39,
  .cells ([.slice none 0 0, i64 0, .slice none 0 0, .slice none 0 0] ++ rep 1003 (i64 0) ++ [.pointer none, .pointer none, ptrV 12, .pointer none, .pointer none, .pointer none, .pointer none, .map (some 13), slcC 14 1 1, i64 0, i64 0, i64 0, u64 0, .slice none 0 0]) 102,
  .cells libCells 57,
  .cells callsV 125,
  .cells progCells 57,
  .cells ([u64 0, ptrV 15, .map (some 16)]) 193,
  .map [] 0,
  .cells ([u64 0, u64 0, .bool false, i64 0, i64 0] ++ rep 32 (u64 0) ++ [.slice none 0 0]) 109,
  .cells ([.slice none 0 0, .map (some 17), i64 0]) 269,
  .map [] 0,
  .map [] 0]⟩
def pN4 : List Path := [.env 3, .env 4, .env 5, .env 10, .cell 1 0, .cell 1 2, .cell 2 0, .cell 3 0, .cell 3 2, .cell 3 1009, .cell 3 1014, .cell 3 1015, .cell 9 1, .cell 9 2, .cell 12 1]
def stN4 : CS := ⟨[(3, ptrV 5), (4, ptrV 6), (5, ptrV 7), (10, ptrV 8)], [.cells ([i64 1, i64 100]) 30,
  .cells ([slcC 9 818 818, i64 90, slcC 10 45 45]) 66,
  .cells ([slcC 11 5 5, i64 0, i64 2, i64 0]) 39,
  .cells ([slcC 12 818 818, i64 90, slcC 13 45 45, .slice none 0 0] ++ rep 1003 (i64 0) ++ [.pointer none, .pointer none, ptrV 14, .pointer none, .pointer none, .pointer none, .pointer none, .map (some 15), slcC 16 1 1, i64 0, i64 0, i64 0, u64 0, .slice none 0 0]) 102,
  .cells libCells 57,
  .cells callsV 125,
  .cells progCells 57,
  .cells libCells 57,
  .cells callsV 125,
  .cells ([u64 0, ptrV 17, .map (some 18)]) 193,
  .map [] 0,
  .cells ([u64 0, u64 0, .bool false, i64 0, i64 0] ++ rep 32 (u64 0) ++ [.slice none 0 0]) 109,
  .cells ([.slice none 0 0, .map (some 19), i64 0]) 269,
  .map [] 0,
  .map [] 0]⟩
def pN5 : List Path := [.env 3, .env 4, .env 5, .env 10, .cell 1 0, .cell 1 2, .cell 2 0, .cell 3 0, .cell 3 2, .cell 3 3, .cell 3 1009, .cell 3 1014, .cell 3 1015, .cell 10 1, .cell 10 2, .cell 13 1]
def stN5 : CS := ⟨[(3, ptrV 5), (4, ptrV 6), (5, ptrV 7), (10, ptrV 8)], [.cells ([i64 1, i64 100]) 30,
  .cells ([slcC 9 818 818, i64 90, slcC 10 45 45]) 66,
  .cells ([slcC 11 5 5, i64 0, i64 2, i64 0]) 39,
  .cells ([slcC 12 818 818, i64 90, slcC 13 45 45, slcC 14 5 5, i64 0, i64 2, i64 0, i64 0, i64 1, i64 2, i64 3, i64 4, i64 5, i64 6, i64 7, i64 8, i64 0, i64 9, i64 10, i64 11, i64 12, i64 13, i64 14, i64 0, i64 0, i64 0, i64 0, i64 15, i64 16, i64 17, i64 18, i64 19, i64 20, i64 21, i64 0, i64 0, i64 0, i64 22, i64 23] ++ rep 8 (i64 0) ++ [i64 24, i64 25, i64 26] ++ rep 7 (i64 0) ++ [i64 27, i64 28, i64 29, i64 30, i64 31, i64 32, i64 33, i64 34, i64 35, i64 0, i64 36, i64 37, i64 38, i64 39, i64 40, i64 41, i64 0, i64 0, i64 0, i64 0, i64 42, i64 43, i64 44, i64 45] ++ rep 926 (i64 0) ++ [.pointer none, .pointer none, ptrV 15, .pointer none, .pointer none, .pointer none, .pointer none, .map (some 16), slcC 17 1 1, i64 0, i64 0, i64 0, u64 0, .slice none 0 0]) 102,
  .cells libCells 57,
  .cells callsV 125,
  .cells progCells 57,
  .cells libCells 57,
  .cells callsV 125,
  .cells progCells 57,
  .cells ([u64 0, ptrV 18, .map (some 19)]) 193,
  .map [] 0,
  .cells ([u64 0, u64 0, .bool false, i64 0, i64 0] ++ rep 32 (u64 0) ++ [.slice none 0 0]) 109,
  .cells ([.slice none 0 0, .map (some 20), i64 0]) 269,
  .map [] 0,
  .map [] 0]⟩
def pN6 : List Path := [.env 3, .env 4, .env 5, .env 10, .cell 1 0, .cell 1 2, .cell 2 0, .cell 3 0, .cell 3 2, .cell 3 3, .cell 3 1009, .cell 3 1010, .cell 3 1011, .cell 3 1012, .cell 3 1013, .cell 3 1014, .cell 3 1015, .cell 10 1, .cell 10 2, .cell 11 0, .cell 12 0, .cell 12 1, .cell 13 0, .cell 14 0, .cell 17 1]
def stN6 : CS := ⟨[(3, ptrV 5), (4, ptrV 6), (5, ptrV 7), (10, ptrV 8)], [.cells ([i64 1, i64 100]) 30,
  .cells ([slcC 9 818 818, i64 90, slcC 10 45 45]) 66,
  .cells ([slcC 11 5 5, i64 0, i64 2, i64 0]) 39,
  .cells ([slcC 12 818 818, i64 90, slcC 13 45 45, slcC 14 5 5, i64 0, i64 2, i64 0, i64 0, i64 1, i64 2, i64 3, i64 4, i64 5, i64 6, i64 7, i64 8, i64 0, i64 9, i64 10, i64 11, i64 12, i64 13, i64 14, i64 0, i64 0, i64 0, i64 0, i64 15, i64 16, i64 17, i64 18, i64 19, i64 20, i64 21, i64 0, i64 0, i64 0, i64 22, i64 23] ++ rep 8 (i64 0) ++ [i64 24, i64 25, i64 26] ++ rep 7 (i64 0) ++ [i64 27, i64 28, i64 29, i64 30, i64 31, i64 32, i64 33, i64 34, i64 35, i64 0, i64 36, i64 37, i64 38, i64 39, i64 40, i64 41, i64 0, i64 0, i64 0, i64 0, i64 42, i64 43, i64 44, i64 45] ++ rep 926 (i64 0) ++ [.pointer none, .pointer none, ptrV 15, ptrV 16, ptrV 17, ptrV 18, ptrV 19, .map (some 20), slcC 21 1 1, i64 0, i64 0, i64 0, u64 0, .slice none 0 0]) 102,
  .cells libCells 57,
  .cells callsV 125,
  .cells progCells 57,
  .cells libCells 57,
  .cells callsV 125,
  .cells progCells 57,
  .cells ([u64 0, ptrV 22, .map (some 23)]) 193,
  .cells ([slcC 24 64 64, i64 0, i64 0]) 195,
  .cells ([slcC 25 8 8, .map (some 26)]) 200,
  .cells ([slcC 27 64 64]) 203,
  .cells ([slcC 28 64 64]) 167,
  .map [] 0,
  .cells ([u64 0, u64 0, .bool false, i64 0, i64 0] ++ rep 32 (u64 0) ++ [.slice none 0 0]) 109,
  .cells ([.slice none 0 0, .map (some 29), i64 0]) 269,
  .map [] 0,
  .cells (rep 64 (u64 0)) 43,
  .cells (rep 16 (.pointer none)) 299,
  .map [] 0,
  .cells (reps 64 [u64 0, .bool false, .bool false, u64 0, i64 0, u64 0, u64 0, u64 0, .bool false, .bool false]) 278,
  .cells (reps 64 [u64 0, u64 0, i64 0, u64 0]) 169,
  .map [] 0]⟩
def pN7 : List Path := [.env 3, .env 4, .env 5, .env 10, .cell 1 0, .cell 1 2, .cell 2 0, .cell 3 0, .cell 3 2, .cell 3 3, .cell 3 1007, .cell 3 1008, .cell 3 1009, .cell 3 1010, .cell 3 1011, .cell 3 1012, .cell 3 1013, .cell 3 1014, .cell 3 1015, .cell 10 0, .cell 10 1, .cell 12 1, .cell 12 2, .cell 13 0, .cell 14 0, .cell 14 1, .cell 15 0, .cell 16 0, .cell 21 1]
def stN7 : CS := ⟨[(3, ptrV 5), (4, ptrV 6), (5, ptrV 7), (10, ptrV 8)], [.cells ([i64 1, i64 100]) 30,
  .cells ([slcC 9 818 818, i64 90, slcC 10 45 45]) 66,
  .cells ([slcC 11 5 5, i64 0, i64 2, i64 0]) 39,
  .cells ([slcC 12 818 818, i64 90, slcC 13 45 45, slcC 14 5 5, i64 0, i64 2, i64 0, i64 0, i64 1, i64 2, i64 3, i64 4, i64 5, i64 6, i64 7, i64 8, i64 0, i64 9, i64 10, i64 11, i64 12, i64 13, i64 14, i64 0, i64 0, i64 0, i64 0, i64 15, i64 16, i64 17, i64 18, i64 19, i64 20, i64 21, i64 0, i64 0, i64 0, i64 22, i64 23] ++ rep 8 (i64 0) ++ [i64 24, i64 25, i64 26] ++ rep 7 (i64 0) ++ [i64 27, i64 28, i64 29, i64 30, i64 31, i64 32, i64 33, i64 34, i64 35, i64 0, i64 36, i64 37, i64 38, i64 39, i64 40, i64 41, i64 0, i64 0, i64 0, i64 0, i64 42, i64 43, i64 44, i64 45] ++ rep 926 (i64 0) ++ [ptrV 15, ptrV 16, ptrV 17, ptrV 18, ptrV 19, ptrV 20, ptrV 21, .map (some 22), slcC 23 1 1, i64 0, i64 0, i64 0, u64 0, .slice none 0 0]) 102,
  .cells libCells 57,
  .cells callsV 125,
  .cells progCells 57,
  .cells libCells 57,
  .cells callsV 125,
  .cells progCells 57,
  .cells ([slcC 24 100 100, slcC 25 100 100, i64 27, i64 4]) 272,
  .cells ([ptrV 15, i64 27, i64 100, .slice none 0 0]) 256,
  .cells ([u64 0, ptrV 26, .map (some 27)]) 193,
  .cells ([slcC 28 64 64, i64 0, i64 0]) 195,
  .cells ([slcC 29 8 8, .map (some 30)]) 200,
  .cells ([slcC 31 64 64]) 203,
  .cells ([slcC 32 64 64]) 167,
  .map [] 0,
  .cells ([u64 0, u64 0, .bool false, i64 0, i64 0] ++ rep 32 (u64 0) ++ [.slice none 0 0]) 109,
  .cells (rep 17 (u64 0) ++ [u64 1, u64 1, u64 20, u64 4] ++ rep 79 (u64 0)) 43,
  .cells (rep 27 (u8 64) ++ rep 73 (u8 0)) 5,
  .cells ([.slice none 0 0, .map (some 33), i64 0]) 269,
  .map [] 0,
  .cells (rep 64 (u64 0)) 43,
  .cells (rep 16 (.pointer none)) 299,
  .map [] 0,
  .cells (reps 64 [u64 0, .bool false, .bool false, u64 0, i64 0, u64 0, u64 0, u64 0, .bool false, .bool false]) 278,
  .cells (reps 64 [u64 0, u64 0, i64 0, u64 0]) 169,
  .map [] 0]⟩
def pN9 : List Path := [.res 0, .cell 0 0, .cell 0 2, .cell 0 3, .cell 0 1007, .cell 0 1008, .cell 0 1009, .cell 0 1010, .cell 0 1011, .cell 0 1012, .cell 0 1013, .cell 0 1014, .cell 0 1015, .cell 4 0, .cell 4 1, .cell 5 3, .cell 6 1, .cell 6 2, .cell 7 0, .cell 8 0, .cell 8 1, .cell 9 0, .cell 10 0, .ent 11 0, .cell 16 1, .cell 23 1, .cell 25 0]
def stN9 : CS := ⟨[], [.cells ([slcC 6 818 818, i64 90, slcC 7 45 45, slcC 8 5 5, i64 0, i64 2, i64 0, i64 0, i64 1, i64 2, i64 3, i64 4, i64 5, i64 6, i64 7, i64 8, i64 0, i64 9, i64 10, i64 11, i64 12, i64 13, i64 14, i64 0, i64 0, i64 0, i64 0, i64 15, i64 16, i64 17, i64 18, i64 19, i64 20, i64 21, i64 0, i64 0, i64 0, i64 22, i64 23] ++ rep 8 (i64 0) ++ [i64 24, i64 25, i64 26] ++ rep 7 (i64 0) ++ [i64 27, i64 28, i64 29, i64 30, i64 31, i64 32, i64 33, i64 34, i64 35, i64 0, i64 36, i64 37, i64 38, i64 39, i64 40, i64 41, i64 0, i64 0, i64 0, i64 0, i64 42, i64 43, i64 44, i64 45] ++ rep 926 (i64 0) ++ [ptrV 9, ptrV 10, ptrV 11, ptrV 12, ptrV 13, ptrV 14, ptrV 15, .map (some 16), slcC 17 1 1, i64 0, i64 0, i64 0, u64 0, .slice none 0 0]) 102,
  .cells libCells 57,
  .cells callsV 125,
  .cells progCells 57,
  .cells ([slcC 18 100 100, slcC 19 100 100, i64 28, i64 4]) 272,
  .cells ([ptrV 9, i64 27, i64 100, slcC 20 1 1]) 256,
  .cells ([u64 0, ptrV 21, .map (some 22)]) 193,
  .cells ([slcC 23 64 64, i64 0, i64 1]) 195,
  .cells ([slcC 24 8 8, .map (some 25)]) 200,
  .cells ([slcC 26 64 64]) 203,
  .cells ([slcC 27 64 64]) 167,
  .map [⟨u64 64, ptrV 28, 0⟩] 1,
  .cells ([u64 0, u64 0, .bool false, i64 0, i64 90] ++ rep 32 (u64 0) ++ [.slice none 0 0]) 109,
  .cells (rep 17 (u64 0) ++ [u64 1, u64 1, u64 20, u64 4] ++ rep 79 (u64 0)) 43,
  .cells (rep 28 (u8 64) ++ rep 72 (u8 0)) 5,
  .cells ([i64 27, i64 1, i64 64]) 174,
  .cells ([.slice none 0 0, .map (some 29), i64 0]) 269,
  .map [] 0,
  .cells ([u64 64] ++ rep 63 (u64 0)) 43,
  .cells (rep 16 (.pointer none)) 299,
  .map [] 0,
  .cells ([u64 1, .bool true, .bool false, u64 64, i64 1, u64 27] ++ reps 63 [u64 0, u64 0, .bool false, .bool false, u64 0, .bool false, .bool false, u64 0, i64 0, u64 0] ++ [u64 0, u64 0, .bool false, .bool false]) 278,
  .cells (reps 64 [u64 0, u64 0, i64 0, u64 0]) 169,
  .cells ([u64 64, slcC 30 1 1, u64 0]) 157,
  .map [] 0,
  .cells ([ptrV 31]) 160,
  .cells ([i64 0] ++ rep 32 (u64 0) ++ [.slice none 0 0, .bool false, i64 0]) 162]⟩
def uN : Value := .tuple #[ptrV 5, .nilIface]

variable [Sg]
def cN : Code := (Tryz.f18.body).getD .skip
def segN : List Code := flatC cN
def gN : Nat → Bool := inMask (Nat.lor (expoC cN) (expoV Tryz.f18.results.toList))
def call0F : ACall := evalF Tryz.prog 5 X (fun _ => none) (fun _ => true) 100000 30
theorem good0F (W : World) : CallGood Tryz.prog W 5 call0F := evalF_good ext_ok names_ok (fun f g h => by cases h) codes_ok mixed 30
def nmFst (args : List Value) (_ : AHeap) : List Nat := match args with
  | .slice (some a) _ _ :: _ => [a.block]
  | _ => []
def tsN : List (FuncId × TS) := [(124, ⟨⟨[], [libO]⟩, argK, 1, nmFst, .nilIface, stKZ⟩), (87, ⟨⟨[], []⟩, [i64 100], 0, fun _ _ => [], .tuple #[ptrV 5, .nilIface], stMZ⟩)]
theorem tsN_ok : ∀ f t, tsN.lookup f = some t → FnToldS Tryz.prog 5 (5 + t.keep) f t.s0 t.args t.u t.s1 := by
  intro f t h
  unfold tsN at h
  simp only [List.lookup] at h
  split at h
  · rename_i e; cases h; rw [eq_of_beq e]; exact check_told
  split at h
  · rename_i e; cases h; rw [eq_of_beq e]
    exact fun W J φ0 w args' R ha => mem_told W J φ0 w args' (R.congr (fun B => rfl) rfl rfl) ha
  · cases h
def orcN : Orc := toldSF 5 tsN call0F
def callNA : ACall := evalFn Tryz.prog 5 X orcN (fun _ => true) 100000 30
def callN : FuncId → CallC := fnK Tryz.prog 5 X orcN (fun _ => true) 100000 30
theorem goodN (W : World) : CallGood Tryz.prog W 5 callNA := evalFn_good ext_ok names_ok (toldSF_ok tsN_ok (good0F W)) codes_ok mixed 30
theorem leN : CallLe callN callNA := fnK_le X _ _ 5 100000 30
def preN : List Code := segN.take 11
def opsN1 : Array Oper := opsOf segN[11]?
def midN : List Code := (segN.drop 12).take 2
def opsN2 : Array Oper := opsOf segN[14]?
def postN5 : List Code := (segN.drop 15).take 3
def postN6 : List Code := (segN.drop 18).take 4
def postN7 : List Code := (segN.drop 22).take 1
def postN : List Code := segN.drop 23
def fN0 : E3 → AHeap → (E3 → AHeap → OutK) → OutK := (codeK Tryz.prog 5 X callN gN 100000 (seqOf preN)).run
def fN1 : E3 → AHeap → (E3 → AHeap → OutK) → OutK := (codeK Tryz.prog 5 X callN gN 100000 (seqOf midN)).run
def fN5 : E3 → AHeap → (E3 → AHeap → OutK) → OutK := (codeK Tryz.prog 5 X callN gN 100000 (seqOf postN5)).run
def fN6 : E3 → AHeap → (E3 → AHeap → OutK) → OutK := (codeK Tryz.prog 5 X callN gN 100000 (seqOf postN6)).run
def fN7 : E3 → AHeap → (E3 → AHeap → OutK) → OutK := (codeK Tryz.prog 5 X callN gN 100000 (seqOf postN7)).run
def fN2 : E3 → AHeap → (E3 → AHeap → OutK) → OutK := (codeK Tryz.prog 5 X callN gN 100000 (seqOf postN)).run
def dN2 (pre : List Nat) : Bool := drawP Tryz.prog 5 5 X call0F opsN2 [3, 4, 5, 10] pN4 stN3 stN4 pre
def stN0 : CS := ⟨argsN.zipIdx.map fun p => (p.2, p.1), obsN0⟩
end
end Go.Proofs.YtjfohamkkmopgaaGreatDoor
