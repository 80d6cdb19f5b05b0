/- The law: whatever number, whatever handle. The law PosixDenied: whatever number, whatever handle. -/
import Derived.Test.YtjfohamkkmopgaaGreatDoorKinds
import Derived.Test.YtjfohamkkmopgaaGreatDoorUsed
import Derived.Test.YtjfohamkkmopgaaGreatDoorPick0
import Derived.Test.YtjfohamkkmopgaaGreatDoorPick1
import Derived.Test.YtjfohamkkmopgaaGreatDoorPick2
import Derived.Test.YtjfohamkkmopgaaGreatDoorPick3
import Derived.Test.YtjfohamkkmopgaaGreatDoorPick4
import Derived.Test.YtjfohamkkmopgaaGreatDoorPick5
import Derived.Test.YtjfohamkkmopgaaGreatDoorLawA
import Derived.Test.YtjfohamkkmopgaaGreatDoorLawB
import Derived.Test.YtjfohamkkmopgaaGreatDoorLawC
namespace Go.Proofs.YtjfohamkkmopgaaGreatDoor
open Go.Ab Go Go.RowKit
set_option maxRecDepth 100000
set_option linter.unusedSectionVars false
set_option linter.unusedVariables false
set_option linter.unusedSimpArgs false
noncomputable section
/-! ### The law's end -/
def nmHd (args : List Value) (h : AHeap) : List Nat := match args with
  | .pointer (some m) :: _ => [m.block, cellN h m.block 1013, cellN h (cellN h m.block 1013) 0]
  | _ => []
def nmMU (args : List Value) (h : AHeap) : List Nat := match args with
  | .pointer (some m) :: _ => [m.block, cellN h m.block 1008, cellN h (cellN h m.block 1008) 3]
  | _ => []
def tsE : List (FuncId × TR) := [(15, ⟨obsHd, [ptrV 5], nmHd, .slice none 0 0⟩), (16, ⟨obsMU, [ptrV 5], nmMU, i64 1⟩)]
def knE : List (FuncId × List Value × Value) := [(9, [], .bool true)]
section
variable [Sg]
def orcE : Orc := orc2 (knownO knE) (toldR 5 tsE call0F)
def callEA : ACall := evalFn Tryz.prog 5 X orcE (fun _ => true) 100000 30
def callE : FuncId → CallC := fnK Tryz.prog 5 X orcE (fun _ => true) 100000 30
theorem leE : CallLe callE callEA := fnK_le X _ _ 5 100000 30
def fE : E3 → AHeap → (E3 → AHeap → OutK) → OutK := (codeK Tryz.prog 5 X callE gD 100000 (seqOf postD)).run
theorem lE : finB Tryz.prog 5 gD fE Tryz.f4.results.toList [] stE (.bool true) ⟨[], []⟩ = true := by kernel_rfl
theorem tsE_ok : ∀ f t, tsE.lookup f = some t → FnToldR Tryz.prog 5 f t.obs t.args t.u := by
  intro f t h
  unfold tsE at h
  simp only [List.lookup] at h
  split at h
  · rename_i e; cases h; rw [eq_of_beq e]; exact handles_told
  split at h
  · rename_i e; cases h; rw [eq_of_beq e]; exact used_told
  · cases h
theorem awake_known : Known Tryz.prog 5 gl 9 [] (.bool true) := awake_always.known (fun φ args' h => by cases h; rfl) (fun φ => .flat rfl)
theorem goodE {W : World} (hT : Go.Ab.Told W 5 gl) : CallGood Tryz.prog W 5 callEA := by
  refine evalFn_good ext_ok names_ok (orc2_ok (knownO_ok hT fun f ar u h => ?_) (toldR_ok tsE_ok (good0F W))) codes_ok mixed 30
  unfold knE at h
  simp only [List.lookup] at h
  split at h
  · rename_i e; cases h; rw [eq_of_beq e]; exact awake_known
  · cases h
/-! ### The law's start -/
theorem tsLib_ok : ∀ f ar u s, tsLib.lookup f = some (ar, u, s) → FnTold Tryz.prog 5 f ar u s := by
  intro f ar u s h
  unfold tsLib at h
  simp only [List.lookup] at h
  split at h
  · rename_i e; cases h; rw [eq_of_beq e]; exact lib_told
  · cases h
theorem tsLib_plain : ∀ f ar u s, tsLib.lookup f = some (ar, u, s) → ar.all (plainV 5) = true := by
  intro f ar u s h
  unfold tsLib at h
  simp only [List.lookup] at h
  split at h
  · cases h; rfl
  · cases h
end
theorem flatD : flatC cD = preD ++ Code.block 2 (.loop bodyD) :: postD := by kernel_rfl
theorem preDOk : preD.all (codeOk Tryz.f4.ntmps) = true := by kernel_rfl
theorem bodyDOk : codeOk Tryz.f4.ntmps bodyD = true := by kernel_rfl
theorem postDOk : postD.all (codeOk Tryz.f4.ntmps) = true := by kernel_rfl
theorem segDOk : segD.all (codeOk Tryz.f4.ntmps) = true := by kernel_rfl
theorem bodyCD : Tryz.f4.body = some cD := by kernel_rfl
theorem tsKern_ok (d : Den) (p : Nat) : letI := deI d p; ∀ f t, tsKern.lookup f = some t → FnToldS Tryz.prog 5 (5 + t.keep) f t.s0 t.args t.u t.s1 := by
  letI := deI d p
  intro f t h
  unfold tsKern at h
  simp only [List.lookup] at h
  split at h
  · rename_i e; cases h; rw [eq_of_beq e]; exact kern_told d p
  · cases h
variable {W : World}
theorem goodL (d : Den) (hT : Go.Ab.Told W 5 gl) {kinds : Value} (hn : (d.k : Int) = d.n0 % 1000) (hk : letI := deI d (pl d); Known Tryz.prog 5 gl 14 [sy 0] kinds) : letI := deI d (pl d); CallGood Tryz.prog W 5 (callLA kinds) := by
  letI := deI d (pl d)
  refine evalFn_good ext_ok names_ok (orc2_ok (knownO_ok hT fun f ar u h => ?_) (orc2_ok (toldM_ok tsLib_ok tsLib_plain) (toldS_ok (tsKern_ok d (pl d))))) codes_ok mixed 30
  unfold knD at h
  simp only [List.lookup] at h
  split at h
  · rename_i e; cases h; rw [eq_of_beq e]
    intro w φ _ args' ha
    cases ha with | cons h1 ha => cases ha with | cons h2 ha => cases ha with | nil =>
    obtain rfl := h2.flat_inv rfl
    cases h1 with
    | flat h => simp [sy, noAddr] at h
    | sym h1 =>
      have h1 : pσ d (pl d) 4 = some _ := h1
      rw [pσ_pl] at h1
      cases h1
      refine (within_walk d.n0 w).mono fun en w' hh => ⟨_, hh.1, .sym ?_, hh.2⟩
      show pσ d (pl d) 0 = _
      rw [pσ_pl]
      show some (Value.int .i64 (d.k : Int)) = _
      rw [hn]
  split at h
  · rename_i e; cases h; rw [eq_of_beq e]; exact hk
  split at h
  · rename_i e; cases h; rw [eq_of_beq e]; exact awake_known
  · cases h
/-- The law's answer. -/
abbrev Ans (W : World) : Ending → World → Prop := fun en w' => en = .returned (.bool true) ∧ Below W.heap.size W w'
theorem ans_of [Sg] {φ0 : Map} {en : Ending} {w' : World} {s : CS} (h : ∃ ψ r', (∀ B, B < 5 → ψ B = φ0 B) ∧ en = .returned r' ∧ VR ψ (.bool true) r' ∧ Rel Tryz.prog W 5 (fun _ => none) ψ (heapC 5 s) w') : Ans W en w' := by
  obtain ⟨ψ, r', _, h1, h2, h3⟩ := h
  obtain rfl := h2.flat_inv rfl
  exact ⟨h1, h3.below⟩
theorem rel00 [Sg] : Rel Tryz.prog W 5 (fun _ => none) (map0 W 5) (heapC 5 ⟨[], []⟩) W := (rel0 (gl := []) (fun g l h => by cases h)).congr (fun B => rfl) rfl rfl
abbrev Fin (W : World) [Sg] : Ending → World → Prop := fun en w' => ∃ ψ r', (∀ B, B < 5 → ψ B = map0 W 5 B) ∧ en = .returned r' ∧ VR ψ (.bool true) r' ∧ Rel Tryz.prog W 5 (fun _ => none) ψ (heapC 5 ⟨[], []⟩) w'
theorem goodP (d : Den) (hf : d.fits) : letI := deI d (pl d); CallGood Tryz.prog W 5 callPA := by
  letI := deI d (pl d)
  exact evalFn_good ext_ok names_ok (orcP_ok d hf W) codes_ok mixed 30
theorem fin_ok [Sg] (hT : Go.Ab.Told W 5 gl) : ∀ a w, St Tryz.prog W 5 5 (fun _ => none) (map0 W 5) Tryz.f4.ntmps (envC stE) (heapC 5 stE) a w → wpL Tryz.prog (bodyPost Tryz.prog Tryz.f4 (Fin W)) postD a w :=
  finL_ok (J := fun _ => none) ext_ok names_ok (goodE hT) mixed (fun c hc => List.all_eq_true.1 postDOk c hc) (codeK_ok leE _) lE
theorem cokD [Sg] : CodeOk Tryz.prog 5 X callPA gD 100000 bodyD fD := codeK_ok leP bodyD
theorem rounds_ok (d : Den) (hf : d.fits) (hT : Go.Ab.Told W 5 gl) : letI := deI d (pl d); ∀ a w, St Tryz.prog W 5 5 (fun _ => none) (map0 W 5) Tryz.f4.ntmps (envC stP0) (heapC 5 stP0) a w → wpL Tryz.prog (bodyPost Tryz.prog Tryz.f4 (Fin W)) (Code.block 2 (.loop bodyD) :: postD) a w := by
  letI := deI d (pl d)
  refine loop_ok (J := fun _ => none) (s1 := stP0) (s2 := stP300) ext_ok names_ok (goodP d hf) mixed bodyDOk cokD (fun Q hq => ?_) (pkL d (pl d)) (fin_ok hT)
  have step : ∀ {s s' : CS} {ps : List Path} {m : Nat}, chunkB 5 gD fD ps s m s' = true → (∀ a w, St Tryz.prog W 5 5 (fun _ => none) (map0 W 5) Tryz.f4.ntmps (envC s') (heapC 5 s') a w → LoopWp Tryz.prog bodyD Q a w) → ∀ a w, St Tryz.prog W 5 5 (fun _ => none) (map0 W 5) Tryz.f4.ntmps (envC s) (heapC 5 s) a w → LoopWp Tryz.prog bodyD Q a w :=
    fun hb hq => chunk_ok (J := fun _ => none) ext_ok names_ok (goodP d hf) mixed bodyDOk cokD hb hq
  exact step (pk0 d (pl d)) (step (pk50 d (pl d)) (step (pk100 d (pl d)) (step (pk150 d (pl d)) (step (pk200 d (pl d)) (step (pk250 d (pl d)) hq)))))
theorem gen_ok (d : Den) {want : Nat} (hw : d.want = want) : letI := deI d (pl d); ∀ a w, St Tryz.prog W 5 5 (fun _ => none) (map0 W 5) Tryz.f4.ntmps (envC (stD1 (u64 want))) (heapC 5 (stD1 (u64 want))) a w → St Tryz.prog W 5 5 (fun _ => none) (map0 W 5) Tryz.f4.ntmps (envC stP0) (heapC 5 stP0) a w := by
  letI := deI d (pl d)
  intro a w hst
  refine hst.gen (s' := stP0) rfl fun t u hu => ?_
  have hu : (t, u) ∈ [(0, sy 0), (1, sy 2), (10, ptrV 5), (12, sy 3), (13, i64 0), (14, i64 0)] := hu
  simp only [List.mem_cons, List.mem_nil_iff, or_false, Prod.mk.injEq] at hu
  rcases hu with ⟨rfl, rfl⟩ | ⟨rfl, rfl⟩ | ⟨rfl, rfl⟩ | ⟨rfl, rfl⟩ | ⟨rfl, rfl⟩ | ⟨rfl, rfl⟩
  · exact ⟨_, by kernel_rfl, .inl rfl⟩
  · exact ⟨_, by kernel_rfl, .inl rfl⟩
  · exact ⟨_, by kernel_rfl, .inl rfl⟩
  · refine ⟨u64 want, by kernel_rfl, .inr ⟨rfl, 3, rfl, ?_⟩⟩
    show pσ d (pl d) 3 = _
    rw [pσ_pl]
    show some (Value.int .u64 (d.want : Int)) = _
    rw [hw]; rfl
  · exact ⟨_, by kernel_rfl, .inl rfl⟩
  · exact ⟨_, by kernel_rfl, .inl rfl⟩
theorem cokL [Sg] (kinds : Value) : CodeOk Tryz.prog 5 X (callLA kinds) gD 100000 (seqOf preD) (fL0 kinds) := codeK_ok (leL kinds) (seqOf preD)
theorem cokLC [Sg] (kinds : Value) : CodeOk Tryz.prog 5 X (callLA kinds) gD 100000 (seqOf segD) (fLC kinds) := codeK_ok (leL kinds) (seqOf segD)
/-- Where the call is denied. -/
theorem denied (d : Den) (hf : d.fits) (hT : Go.Ab.Told W 5 gl) (hn : (d.k : Int) = d.n0 % 1000) {kinds : Value} (hk : letI := deI d (pl d); Known Tryz.prog 5 gl 14 [sy 0] kinds) {h : Value} {want : Nat} (hw : d.want = want)
    (hb : letI := deI d (pl d); reachB 5 gD (fL0 kinds) pP0 (stD0 h) (stD1 (u64 want)) = true) {args' : List Value} (ha : letI := deI d (pl d); VRs (map0 W 5) [sy 4, h] args') : Calls Tryz.prog 4 args'.toArray W (Ans W) := by
  letI := deI d (pl d)
  have key : ∀ a, St Tryz.prog W 5 5 (fun _ => none) (map0 W 5) Tryz.f4.ntmps (envC (stD0 h)) (heapC 5 (stD0 h)) a W → wpL Tryz.prog (bodyPost Tryz.prog Tryz.f4 (Fin W)) (flatC cD) a W := by
    intro a hst
    rw [flatD]
    exact seg_ok (J := fun _ => none) ext_ok names_ok (goodL d hT hn hk) mixed preDOk (cokL kinds) hb (fun a w hst => rounds_ok d hf hT a w (gen_ok d hw a w hst)) a W hst
  exact (entryW_ok Tryz.func4 bodyCD (args := [sy 4, h]) (R := Fin W) (show 2 ≤ Tryz.f4.ntmps by decide +kernel) key rel00 ha).mono fun en w' hh => ans_of hh
/-- Where it is not. -/
theorem let_by (d : Den) (hT : Go.Ab.Told W 5 gl) (hn : (d.k : Int) = d.n0 % 1000) (hk : letI := deI d (pl d); Known Tryz.prog 5 gl 14 [sy 0] kindsC) {h : Value}
    (hb : letI := deI d (pl d); finB Tryz.prog 5 gD (fLC kindsC) Tryz.f4.results.toList [] (stD0 h) (.bool true) ⟨[], []⟩ = true) {args' : List Value} (ha : letI := deI d (pl d); VRs (map0 W 5) [sy 4, h] args') : Calls Tryz.prog 4 args'.toArray W (Ans W) := by
  letI := deI d (pl d)
  have key : ∀ a, St Tryz.prog W 5 5 (fun _ => none) (map0 W 5) Tryz.f4.ntmps (envC (stD0 h)) (heapC 5 (stD0 h)) a W → wpL Tryz.prog (bodyPost Tryz.prog Tryz.f4 (Fin W)) segD a W := fun a hst =>
    finL_ok (J := fun _ => none) ext_ok names_ok (goodL d hT hn hk) mixed (fun c hc => List.all_eq_true.1 segDOk c hc) (cokLC kindsC) hb a W hst
  exact (entryW_ok Tryz.func4 bodyCD (args := [sy 4, h]) (R := Fin W) (show 2 ≤ Tryz.f4.ntmps by decide +kernel) key rel00 ha).mono fun en w' hh => ans_of hh
end
end Go.Proofs.YtjfohamkkmopgaaGreatDoor
namespace Go.Proofs.YtjfohamkkmopgaaGreatDoor
open Go.Ab Go Go.RowKit
set_option maxRecDepth 100000
set_option linter.unusedSectionVars false
set_option linter.unusedVariables false
set_option linter.unusedSimpArgs false
noncomputable section
theorem calls_split : (callR.all fun r => cond (Nat.beq r.2.2.1 0) (Nat.beq r.2.2.2.1 0 && (Nat.beq r.2.2.2.2.1 0 && Nat.beq r.2.2.2.2.2 0)) (ksA.any fun j => Nat.beq j r.1)) = true := by decide +kernel
theorem ks_calls : ((ksA ++ ksC).all fun j => callR.any fun r => Nat.beq r.1 j) = true := by decide +kernel
theorem VR_kinds [Sg] (φ : Map) (a b c d : Nat) (is : Bool) : VR φ (kindsOf a b c d is) (kindsOf a b c d is) :=
  .of_tuples (.cons (.of_aggs (.cons (.flat rfl) (.cons (.flat rfl) (.cons (.flat rfl) (.cons (.flat rfl) .nil))))) (.cons (.flat rfl) .nil))
def mkD (n0 : Int) (h0 : Nat) (h2 : h0 < 2 ^ 64) (want : Nat) (hw : want ≠ 0) (ki : Nat → Nat) (hi : ki 0 ≠ 0) : Den where
  k := (n0 % 1000).toNat
  hk := by omega
  hd := if h0 < 1000 then h0 + 1000 else h0
  h1 := by split <;> omega
  h2 := by split <;> omega
  want := want
  hw := hw
  n0 := n0
  h0 := h0
  hh := fun h => if_pos h
  ki := ki
  hi := hi
theorem sy0_known (d : Den) {u r' : Value} (h : Always Tryz.prog 5 gl 14 [i64 d.k] r') (hu : letI := deI d (pl d); ∀ φ, VR φ u r') : letI := deI d (pl d); Known Tryz.prog 5 gl 14 [sy 0] u := by
  letI := deI d (pl d)
  refine h.known (fun φ args' ha => ?_) hu
  cases ha with | cons h1 ha => cases ha with | nil =>
  cases h1 with
  | flat h => simp [sy, noAddr] at h
  | sym h1 =>
    have h1 : pσ d (pl d) 0 = some _ := h1
    rw [pσ_pl] at h1
    cases h1
    rfl
variable {W : World}
theorem both (d : Den) (n0 : Int) (h0 : Nat) (e1 : d.n0 = n0) (e2 : d.h0 = h0) (e3 : ¬ h0 < 1000 → d.hd = h0) (hf : ∀ (h : Value), (h = sy 2 ∨ h = sy 5) → ∀ args' : List Value, (letI := deI d (pl d); VRs (map0 W 5) [sy 4, h] args') → Calls Tryz.prog 4 args'.toArray W (Ans W)) :
    Calls Tryz.prog 4 #[.int .i64 n0, .int .u64 h0] W (Ans W) := by
  letI := deI d (pl d)
  have h4 : VR (map0 W 5) (sy 4) (.int .i64 n0) := .sym (by show pσ d (pl d) 4 = _; rw [pσ_pl]; show some (Value.int .i64 d.n0) = _; rw [e1])
  by_cases hlt : h0 < 1000
  · refine hf (sy 5) (.inr rfl) [.int .i64 n0, .int .u64 h0] (.cons h4 (.cons (.sym ?_) .nil))
    show pσ d (pl d) 5 = _
    rw [pσ_pl]
    show (if d.h0 < 1000 then some (Value.int .u64 (d.h0 : Int)) else none) = _
    rw [e2, if_pos hlt]
  · refine hf (sy 2) (.inl rfl) [.int .i64 n0, .int .u64 h0] (.cons h4 (.cons (.sym ?_) .nil))
    show pσ d (pl d) 2 = _
    rw [pσ_pl]
    show some (Value.int .u64 (d.hd : Int)) = _
    rw [e3 hlt]
theorem posix_denied (hT : Go.Ab.Told W 5 gl) (n0 : Int) (h0 : Nat) (h2 : h0 < 2 ^ 64) : Calls Tryz.prog 4 #[.int .i64 n0, .int .u64 h0] W (Ans W) := by
  have hk : (((n0 % 1000).toNat : Nat) : Int) = n0 % 1000 := by omega
  by_cases hc : ∃ r ∈ callR, r.1 = (n0 % 1000).toNat
  · obtain ⟨r, hr, hrk⟩ := hc
    have hs := List.all_eq_true.1 calls_split r hr
    have hA := kinds_row hr
    rw [hrk] at hA
    cases h0k : Nat.beq r.2.2.1 0 with
    | true =>
      rw [h0k] at hs
      simp only [cond_true, Bool.and_eq_true] at hs
      rw [Nat.eq_of_beq_eq_true h0k, Nat.eq_of_beq_eq_true hs.1, Nat.eq_of_beq_eq_true hs.2.1, Nat.eq_of_beq_eq_true hs.2.2] at hA
      let d := mkD n0 h0 h2 1 (by decide) (fun _ => 1) (by decide)
      have hkn := sy0_known d (u := kindsC) hA (fun φ => by letI := deI d (pl d); exact VR_kinds φ 0 0 0 0 true)
      refine both d n0 h0 rfl rfl (fun h => if_neg h) fun h hh args' ha => ?_
      rcases hh with rfl | rfl
      · exact let_by d hT hk hkn (lC2 d (pl d)) ha
      · exact let_by d hT hk hkn (lC5 d (pl d)) ha
    | false =>
      rw [h0k] at hs
      simp only [cond_false] at hs
      obtain ⟨j, hj, hjr⟩ := List.any_eq_true.1 hs
      have hjr := Nat.eq_of_beq_eq_true hjr
      let d := mkD n0 h0 h2 22 (by decide) (fun i => match i with | 0 => r.2.2.1 | 1 => r.2.2.2.1 | 2 => r.2.2.2.2.1 | _ => r.2.2.2.2.2) (fun e => by
        have : r.2.2.1 = 0 := e
        rw [this] at h0k; cases h0k)
      have hfit : d.fits := .inl ⟨by show (n0 % 1000).toNat ∈ ksA; rw [← hrk, ← hjr]; exact hj, rfl⟩
      have hkn := sy0_known d (u := kindsA) hA (fun φ => by
        letI := deI d (pl d)
        have s : ∀ (i : Nat) (v : Value), dσ d i = some v → VR φ (sy i) v := fun i v e => .sym (by show pσ d (pl d) i = _; rw [pσ_pl]; exact e)
        exact .of_tuples (.cons (.of_aggs (.cons (s 6 _ rfl) (.cons (s 7 _ rfl) (.cons (s 8 _ rfl) (.cons (s 9 _ rfl) .nil))))) (.cons (.flat rfl) .nil)))
      refine both d n0 h0 rfl rfl (fun h => if_neg h) fun h hh args' ha => ?_
      rcases hh with rfl | rfl
      · exact denied d hfit hT hk hkn rfl (lA2 d (pl d)) ha
      · exact denied d hfit hT hk hkn rfl (lA5 d (pl d)) ha
  · have hno : ∀ r ∈ callR, r.1 ≠ (n0 % 1000).toNat := fun r hr e => hc ⟨r, hr, e⟩
    let d := mkD n0 h0 h2 38 (by decide) (fun _ => 1) (by decide)
    have hfit : d.fits := .inr ⟨by
      show (n0 % 1000).toNat ∈ ksB
      refine List.mem_filter.2 ⟨List.mem_range.2 (by omega), ?_⟩
      cases hb : (ksA ++ ksC).any fun j => Nat.beq j (n0 % 1000).toNat with
      | false => rfl
      | true =>
        obtain ⟨j, hj, hj2⟩ := List.any_eq_true.1 hb
        obtain ⟨r, hr, hr2⟩ := List.any_eq_true.1 (List.all_eq_true.1 ks_calls j hj)
        exact absurd ((Nat.eq_of_beq_eq_true hr2).trans (Nat.eq_of_beq_eq_true hj2)) (hno r hr), rfl⟩
    have hkn := sy0_known d (u := kindsB) (kinds_none _ hno) (fun φ => by letI := deI d (pl d); exact VR_kinds φ 0 0 0 0 false)
    refine both d n0 h0 rfl rfl (fun h => if_neg h) fun h hh args' ha => ?_
    rcases hh with rfl | rfl
    · exact denied d hfit hT hk hkn rfl (lB2 d (pl d)) ha
    · exact denied d hfit hT hk hkn rfl (lB5 d (pl d)) ha
end
end Go.Proofs.YtjfohamkkmopgaaGreatDoor
