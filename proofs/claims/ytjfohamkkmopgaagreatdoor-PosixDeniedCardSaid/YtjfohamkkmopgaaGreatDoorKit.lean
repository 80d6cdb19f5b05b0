/- posix.Lib, told. Short words for told states. What is not known: the number, the handle, the answer. code.Check over the library's code: the states at its loop's head. -/
import Derived.Test.YtjfohamkkmopgaaGreatDoorAsmT
import Derived.Test.YtjfohamkkmopgaaGreatDoorLibA
import Derived.Test.YtjfohamkkmopgaaGreatDoorAbT
import Derived.Test.YtjfohamkkmopgaaGreatDoorData
namespace Go.Proofs.YtjfohamkkmopgaaGreatDoor
set_option linter.unusedVariables false
set_option linter.unusedSimpArgs false
set_option linter.unusedSectionVars false
open Go.Ab Go.Extern
set_option maxRecDepth 100000
variable [Sg]
theorem ts_ok : ∀ f ar u s, ts.lookup f = some (ar, u, s) → FnTold Tryz.prog 5 f ar u s := by
  intro f ar u s h
  unfold ts at h
  simp only [List.lookup] at h
  split at h
  · rename_i e; cases h; rw [eq_of_beq e]; exact asm_told
  · cases h
theorem goodZ (W : World) : CallGood Tryz.prog W 5 callZ := evalF_good ext_ok names_ok (toldF_ok ts_ok) codes_ok mixed 30
noncomputable abbrev evB : ACall := evalFn Tryz.prog 5 X (onceF 5 callZ [(33, [txV])]) (fun _ => true) 100000 30
theorem goodBK (W : World) : CallGood Tryz.prog W 5 evB := evalFn_good ext_ok names_ok (onceF_ok (gl := []) (fun g l h => by cases h) (fun W _ => goodZ W) (by kernel_rfl)) codes_ok mixed 30
theorem leBK : CallLe callBK evB := fnK_le X _ _ 5 100000 30
theorem bodyCL : Tryz.f17.body = some cL := by kernel_rfl
theorem okL : (flatC cL).all (codeOk Tryz.f17.ntmps) = true := by kernel_rfl
theorem lib_told : FnTold Tryz.prog 5 17 [] resL stLib :=
  whole_ok (G := gL) (L := 100000) (nm := nmLib) (call := callBK) (args := []) (fun W => ext_ok) names_ok mixed goodBK leBK Tryz.func17 bodyCL okL (Nat.zero_le _) libFin
end Go.Proofs.YtjfohamkkmopgaaGreatDoor
namespace Go.Proofs.YtjfohamkkmopgaaGreatDoor
open Go.Ab Go.Extern Go
set_option maxRecDepth 100000
noncomputable section
def u64 (n : Nat) : Value := .int .u64 (.ofNat n)
def u8 (n : Nat) : Value := .int .u8 (.ofNat n)
def sy (i : Nat) : Value := .chan (some i)
def rep (n : Nat) (v : Value) : List Value := List.replicate n v
def reps (n : Nat) (l : List Value) : List Value := (List.replicate n l).flatten
def ptrO (b o : Nat) : Value := .pointer (some ⟨b, o, none⟩)
def slcC (b n c : Nat) : Value := .slice (some ⟨b, 0, none⟩) n c
def slcO (b o n c : Nat) : Value := .slice (some ⟨b, o, none⟩) n c
def libCells : List Value := insR.flatMap insV
def insP (op a : Nat) (v : Value) : List Value := [i64 op, i64 a, i64 0, i64 0, v, i64 0, i64 0]
/-- The client's code. -/
def progCells : List Value := insP 1 0 (sy 2) ++ insP 1 1 (sy 2) ++ insP 1 2 (sy 2) ++ insP 22 0 (sy 1) ++ insP 12 0 (u64 0)
end
end Go.Proofs.YtjfohamkkmopgaaGreatDoor
namespace Go.Proofs.YtjfohamkkmopgaaGreatDoor
open Go.Ab Go.Extern Go
set_option maxRecDepth 100000
set_option linter.unusedVariables false
set_option linter.unusedSimpArgs false
/-- The number (within 0 to 999), the handle, what is answered, the first number, the first handle, the number's kinds. -/
structure Den where
  k : Nat
  hk : k < 1000
  hd : Nat
  h1 : 1000 ≤ hd
  h2 : hd < 2 ^ 64
  want : Nat
  hw : want ≠ 0
  n0 : Int
  h0 : Nat
  hh : h0 < 1000 → hd = h0 + 1000
  ki : Nat → Nat
  hi : ki 0 ≠ 0
def dσ (d : Den) : Nat → Option Value
  | 0 => some (.int .i64 d.k)
  | 1 => some (.int .u64 d.k)
  | 2 => some (.int .u64 d.hd)
  | 3 => some (.int .u64 d.want)
  | 4 => some (.int .i64 d.n0)
  | 5 => if d.h0 < 1000 then some (.int .u64 d.h0) else none
  | 6 => some (.int .i64 (d.ki 0))
  | 7 => some (.int .i64 (d.ki 1))
  | 8 => some (.int .i64 (d.ki 2))
  | 9 => some (.int .i64 (d.ki 3))
  | 10 => some (.int .u64 (d.hd - 1 : Nat))
  | _ => none
def pσ (d : Den) (p : Nat) (i : Nat) : Option Value := if (d.hd - 1) % 64 = p then dσ d i else none
def dNe (i : Nat) (x : Value) : Bool := match i, x with
  | 2, .int .u64 (.ofNat n) => Nat.beq n 0
  | 3, .int .u64 (.ofNat n) => Nat.beq n 0
  | 6, .int .i64 (.ofNat n) => Nat.beq n 0
  | _, _ => false
def dEx (p : Nat) (op : BinOp) (a b : Value) : Option Value := match op, a, b with
  | .lss, .chan (some 1), .int .u64 (.ofNat n) => cond (Nat.beq n 1000) (some (.bool true)) none
  | .lss, .chan (some 2), .int .u64 (.ofNat n) => cond (Nat.beq n 1000) (some (.bool false)) none
  | .lss, .chan (some 5), .int .u64 (.ofNat n) => cond (Nat.beq n 1000) (some (.bool true)) none
  | .geq, .chan (some 2), .int .u64 (.ofNat n) => cond (Nat.ble n 1000) (some (.bool true)) none
  | .add, .chan (some 5), .int .u64 (.ofNat n) => cond (Nat.beq n 1000) (some (.chan (some 2))) none
  | .sub, .chan (some 2), .int .u64 (.ofNat n) => cond (Nat.beq n 1) (some (.chan (some 10))) none
  | .rem, .chan (some 10), .int .u64 (.ofNat n) => cond (Nat.beq n 64) (some (.int .u64 (.ofNat p))) none
  | _, _, _ => none
def dCv (P : Program) (s t : TypeId) (a : Value) : Option Value := match P.underlying s, P.underlying t, a with
  | some (.int .i64), some (.int .u64), .chan (some 0) => some (.chan (some 1))
  | some (.int .u64), some (.int .i64), .chan (some 1) => some (.chan (some 0))
  | _, _, _ => none
theorem dσ_int {d : Den} {i : Nat} {v : Value} (h : dσ d i = some v) : ∃ k n, v = .int k n := by
  unfold dσ at h
  split at h <;> first | (cases h; exact ⟨_, _, rfl⟩) | (split at h <;> cases h; exact ⟨_, _, rfl⟩) | cases h
theorem pσ_some {d : Den} {p i : Nat} {v : Value} (h : pσ d p i = some v) : (d.hd - 1) % 64 = p ∧ dσ d i = some v := by
  unfold pσ at h
  split at h
  · exact ⟨‹_›, h⟩
  · cases h
theorem _root_.Go.Ab.Sy.lit {σ : Nat → Option Value} {k : IntKind} {n : Int} {v' : Value} (h : Sy σ (.int k n) v') : v' = .int k n := by
  rcases h with ⟨_, rfl⟩ | ⟨j, h, _⟩
  · rfl
  · cases h
theorem dEx_ok (d : Den) (p : Nat) : ExOk (pσ d p) (dEx p) := by
  intro P w op t a b v a' b' h ha hb
  have hd2 := d.h2
  have hd1 := d.h1
  have hk := d.hk
  unfold dEx at h
  split at h
  case h_8 => cases h
  all_goals
    rename_i n
    have hb := hb.lit
    subst hb
    obtain ⟨hp, ha⟩ := pσ_some ha.chan
    simp only [dσ] at ha
  · cases ha
    cases hn : Nat.beq n 1000 with
    | false => rw [hn] at h; cases h
    | true =>
      rw [hn] at h; cases h
      have := Nat.eq_of_beq_eq_true hn
      subst this
      refine ⟨.bool true, ?_, .inl ⟨rfl, rfl⟩⟩
      have : decide ((d.k : Int) < 1000) = true := by simp; omega
      simp [binOp, Op.intCmp]; omega
  · cases ha
    cases hn : Nat.beq n 1000 with
    | false => rw [hn] at h; cases h
    | true =>
      rw [hn] at h; cases h
      have := Nat.eq_of_beq_eq_true hn
      subst this
      refine ⟨.bool false, ?_, .inl ⟨rfl, rfl⟩⟩
      simp [binOp, Op.intCmp]; omega
  · split at ha
    · cases ha
      cases hn : Nat.beq n 1000 with
      | false => rw [hn] at h; cases h
      | true =>
        rw [hn] at h; cases h
        have := Nat.eq_of_beq_eq_true hn
        subst this
        refine ⟨.bool true, ?_, .inl ⟨rfl, rfl⟩⟩
        simp [binOp, Op.intCmp]; omega
    · cases ha
  · cases ha
    cases hn : Nat.ble n 1000 with
    | false => rw [hn] at h; cases h
    | true =>
      rw [hn] at h; cases h
      have := Nat.le_of_ble_eq_true hn
      refine ⟨.bool true, ?_, .inl ⟨rfl, rfl⟩⟩
      simp [binOp, Op.intCmp]; omega
  · split at ha
    · cases ha
      cases hn : Nat.beq n 1000 with
      | false => rw [hn] at h; cases h
      | true =>
        rw [hn] at h; cases h
        have := Nat.eq_of_beq_eq_true hn
        subst this
        refine ⟨.int .u64 d.hd, ?_, .inr ⟨2, rfl, by unfold pσ; rw [if_pos hp]; rfl⟩⟩
        have := d.hh ‹_›
        simp only [binOp, Op.intArith, Sem.run_pure]
        have e : ((d.h0 : Int) + Int.ofNat 1000) = Int.ofNat d.hd := by rw [this]; simp
        rw [e, wrap_lim .u64 d.hd (by simpa [lim] using hd2)]
        rfl
    · cases ha
  · cases ha
    cases hn : Nat.beq n 1 with
    | false => rw [hn] at h; cases h
    | true =>
      rw [hn] at h; cases h
      have := Nat.eq_of_beq_eq_true hn
      subst this
      refine ⟨.int .u64 (d.hd - 1 : Nat), ?_, .inr ⟨10, rfl, by unfold pσ; rw [if_pos hp]; rfl⟩⟩
      simp only [binOp, Op.intArith, Sem.run_pure]
      have e : ((d.hd : Int) - Int.ofNat 1) = Int.ofNat (d.hd - 1) := by simp; omega
      rw [e, wrap_lim .u64 (d.hd - 1) (by simp [lim]; omega)]
      rfl
  · cases ha
    cases hn : Nat.beq n 64 with
    | false => rw [hn] at h; cases h
    | true =>
      rw [hn] at h; cases h
      have := Nat.eq_of_beq_eq_true hn
      subst this
      refine ⟨.int .u64 (.ofNat p), ?_, .inl ⟨rfl, rfl⟩⟩
      simp only [binOp, Op.intDiv]
      have e : ((d.hd - 1 : Nat) : Int).tmod (Int.ofNat 64) = Int.ofNat p := by
        have : ((d.hd - 1 : Nat) : Int).tmod (Int.ofNat 64) = (((d.hd - 1) % 64 : Nat) : Int) := rfl
        rw [this, hp]; rfl
      rw [e]
      rfl
theorem dCv_ok (d : Den) (p : Nat) (P : Program) (w : World) (s t : TypeId) (a v a' : Value) (h : dCv P s t a = some v) (ha : Sy (pσ d p) a a') : ∃ v', (convert s t a').run P w = .ok v' w ∧ Sy (pσ d p) v v' := by
  have hk := d.hk
  unfold dCv at h
  split at h
  case h_3 => cases h
  · rename_i u1 u2
    cases h
    obtain ⟨hp, ha⟩ := pσ_some ha.chan
    cases ha
    refine ⟨.int .u64 d.k, ?_, .inr ⟨1, rfl, by unfold pσ; rw [if_pos hp]; rfl⟩⟩
    unfold convert
    simp only [Sem.run_bind, run_und w u1, run_und w u2, Result.andThen_ok, Conv.intToInt]
    have hw := wrap_lim .u64 d.k (by simp [lim]; omega)
    have e : IntKind.u64.wrap (d.k : Int) = (d.k : Int) := hw
    simp only [e]
    rfl
  · rename_i u1 u2
    cases h
    obtain ⟨hp, ha⟩ := pσ_some ha.chan
    cases ha
    refine ⟨.int .i64 d.k, ?_, .inr ⟨0, rfl, by unfold pσ; rw [if_pos hp]; rfl⟩⟩
    unfold convert
    simp only [Sem.run_bind, run_und w u1, run_und w u2, Result.andThen_ok, Conv.intToInt]
    have hw := wrap_lim .i64 d.k (by simp [lim]; omega)
    have e : IntKind.i64.wrap (d.k : Int) = (d.k : Int) := hw
    simp only [e]
    rfl
@[reducible] def deI (d : Den) (p : Nat) : Sg := symSg (pσ d p) dNe (fun _ => true) (dEx p)
  (fun i v h => by obtain ⟨k, n, rfl⟩ := dσ_int (pσ_some h).2; rfl)
  (fun i x v h1 h2 => by
    obtain ⟨_, h2⟩ := pσ_some h2
    have := d.h1
    have := d.hw
    have := d.hi
    unfold dNe at h1
    split at h1
    case h_4 => cases h1
    all_goals
      have h1 := Nat.eq_of_beq_eq_true h1
      subst h1
      cases h2
      refine ⟨rfl, fun e => ?_⟩
      have e := Int.ofNat.inj e
      omega)
  (fun i v _ h => dσ_int (pσ_some h).2) (dEx_ok d p) dCv (dCv_ok d p)
end Go.Proofs.YtjfohamkkmopgaaGreatDoor
namespace Go.Proofs.YtjfohamkkmopgaaGreatDoor
open Go.Ab
set_option maxRecDepth 100000
set_option linter.unusedSectionVars false
noncomputable section
variable [Sg]
def cK : Code := (Tryz.f124.body).getD .skip
def segK : List Code := flatC cK
def preK : List Code := segK.take 4
def bodyK : Code := loopOf segK[4]?
def postK : List Code := segK.drop 5
def gK : Nat → Bool := inMask (Nat.lor (expoC cK) (expoV Tryz.f124.results.toList))
def fK0 : E3 → AHeap → (E3 → AHeap → OutK) → OutK := (codeK Tryz.prog 5 X call0 gK 100000 (seqOf preK)).run
def fK1 : E3 → AHeap → (E3 → AHeap → OutK) → OutK := (codeK Tryz.prog 5 X call0 gK 100000 bodyK).run
def fK2 : E3 → AHeap → (E3 → AHeap → OutK) → OutK := (codeK Tryz.prog 5 X call0 gK 100000 (seqOf postK)).run
def libO : CO := .cells libCells 57
def argK : List Value := [slcV 5 818, .bool true]
def stK0 : CS := ⟨argK.zipIdx.map fun p => (p.2, p.1), [libO]⟩
def stK (i : Nat) : CS := ⟨[(0, slcV 5 818), (1, .bool true), (12, slcV 5 818), (13, i64 818), (14, i64 i)], [libO]⟩
def stK9 : CS := ⟨[(0, slcV 5 818)], [libO]⟩
def stKZ : CS := ⟨[], [libO]⟩
end
end Go.Proofs.YtjfohamkkmopgaaGreatDoor
