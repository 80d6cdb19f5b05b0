/- The abstract evaluator: told calls and calls done once, with texts compared fast. -/
import Derived.Test.YtcfmeiejfofgpaaGreatDoorAbX
namespace Go.Ab
open Go.RowKit
set_option linter.unusedVariables false
set_option linter.unusedSectionVars false

noncomputable section
variable [Sg]
def vsame : Value → Value → Bool
  | .string a, .string b => beqL a.data.toList b.data.toList
  | a, b => veq a b
def vsames : List Value → List Value → Bool
  | [], [] => true
  | a :: l, b :: m => vsame a b && vsames l m
  | _, _ => false
theorem vsame_eq (a b : Value) (h : vsame a b = true) : a = b := by
  unfold vsame at h
  split at h
  · rename_i x y
    rw [beqL_eq, beq_iff_eq, Array.toList_inj] at h
    rw [ByteArray.ext h]
  · exact veq_eq _ _ h
theorem vsames_eq : ∀ (l m : List Value), vsames l m = true → l = m
  | [], [], _ => rfl
  | [], _ :: _, h => by simp [vsames] at h
  | _ :: _, [], h => by simp [vsames] at h
  | a :: l, b :: m, h => by
    simp only [vsames, Bool.and_eq_true] at h
    rw [vsame_eq a b h.1, vsames_eq l m h.2]

variable {P : Program} {W : World} {K : Nat}
/-- Calls that are told, at an empty memory. -/
def toldF (K : Nat) (ts : Tolds) : Orc := fun f => match ts.lookup f with
  | some (as, u, s) => some fun args h => if Nat.beq h.next K && (Nat.beq h.ro K && vsames args as) then some (u, heapC K s) else none
  | none => none
theorem toldF_ok {ts : Tolds} (ht : ∀ f as u s, ts.lookup f = some (as, u, s) → FnTold P K f as u s) : OrcOk P W K (toldF K ts) := by
  intro f g hg args h r h' he J φ w args' R ha
  unfold toldF at hg
  split at hg
  case h_2 => cases hg
  rename_i as u s hl
  cases hg
  simp only at he
  split at he
  case isFalse => cases he
  rename_i hc
  simp only [Bool.and_eq_true] at hc
  have h1 : h.next = K := Nat.eq_of_beq_eq_true hc.1
  have h2 : h.ro = K := Nat.eq_of_beq_eq_true hc.2.1
  cases he
  have := vsames_eq _ _ hc.2.2
  subst this
  refine (ht f _ _ _ hl W J φ w args' (R.bare h1 h2) ha).mono fun en w' hh => ?_
  obtain ⟨ψ, r', g1, g2, g3, g4⟩ := hh
  exact ⟨ψ, r', fun B x e => by rw [g1 B (by have := R.dom B x e; rw [h1] at this; exact this)]; exact e, g2, g3, g4⟩
/-- Calls done once. -/
def onceF (K : Nat) (call : ACall) (ms : Memos) : Orc := fun f =>
  if ms.any fun m => m.1 == f then some fun args h =>
    match ms.find? fun m => m.1 == f && vsames args m.2 with
      | some m => memo K (call f m.2 (heap0 K [])) h
      | none => call f args h
  else none
theorem onceF_ok {gl : List (Nat × List Value)} (hT : Told W K gl) {call : ACall} (hc : ∀ W, Told W K gl → CallGood P W K call) {ms : Memos} (hm : ms.all (fun m => m.2.all (plainV K)) = true) : OrcOk P W K (onceF K call ms) := by
  intro f g hg args h r h' he J φ w args' R ha
  unfold onceF at hg
  split at hg
  case isFalse => cases hg
  cases hg
  replace he : (match ms.find? fun m => m.1 == f && vsames args m.2 with
      | some m => memo K (call f m.2 (heap0 K [])) h
      | none => call f args h) = some (r, h') := he
  split at he
  · rename_i m hf
    have h1 := List.find?_some hf
    have h2 := List.mem_of_find?_eq_some hf
    simp only [Bool.and_eq_true] at h1
    have h3 := vsames_eq _ _ h1.2
    subst h3
    exact memo_ok (hc w (hT.later R.below)) (List.all_eq_true.1 hm m h2) he R ha
  · exact hc W hT f args h r h' he J φ w args' R ha
variable {J : Nat → Option Obj} {X : Ext} {call : FuncId → CallC} {callA : ACall}
/-- From a told state to the function's end: what it gives, and what is left. -/
def finG (P : Program) (K : Nat) (G : Nat → Bool) (f : E3 → AHeap → (E3 → AHeap → OutK) → OutK) (rs : List ResultVar) (nm : List Value → E3 → AHeap → List Nat) (s : CS) (u : Value) (s' : CS) : Bool :=
  (s.env.all fun p => G p.1 && Nat.blt p.1 512) && match f (e3C s) (heapC K s) (fun e h => some (.normal, e, h)) with
    | some (x, e, h) => endsB x && match (resC P rs).run e h with
      | some vs => let rl := nm vs e h
        subB K s' rl e h && renB K (renOf K rl) u (resVal vs)
      | none => false
    | none => false
theorem finG_ok (hX : ExtOk P W K X) (hN : NamesOk P) (hcA : CallGood P W K callA) (hm : P.follows .mixedOrders = true) {G : Nat → Bool} {L : Nat} {fn : Func} {l : List Code} (hok : ∀ c ∈ l, codeOk fn.ntmps c = true) {f : E3 → AHeap → (E3 → AHeap → OutK) → OutK} (hf : CodeOk P K X callA G L (seqOf l) f) {φ0 : Map}
    {nm : List Value → E3 → AHeap → List Nat} {s s' : CS} {u : Value} (hb : finG P K G f fn.results.toList nm s u s' = true) : ∀ a w, St P W K J φ0 fn.ntmps (envC s) (heapC K s) a w →
    wpL P (bodyPost P fn fun en w' => ∃ ψ r', (∀ B, B < K → ψ B = φ0 B) ∧ en = .returned r' ∧ VR ψ u r' ∧ Rel P W K J ψ (heapC K s') w') l a w := by
  simp only [finG, Bool.and_eq_true] at hb
  obtain ⟨h1, h2⟩ := hb
  split at h2
  case h_2 => cases h2
  rename_i x e h hr
  simp only [Bool.and_eq_true] at h2
  obtain ⟨hx, h2⟩ := h2
  split at h2
  case h_2 => cases h2
  rename_i vs hvs
  simp only [Bool.and_eq_true] at h2
  obtain ⟨hsub, hren⟩ := h2
  intro a w hst
  obtain ⟨⟨φ, hag, R, E⟩, hdf⟩ := hst
  have fin : ∀ (p' : PT Value), LeE G e p' → evalC P K X callA L (seqOf l) (envC s) (heapC K s) = some (x, p', h) →
      wpL P (bodyPost P fn fun en w' => ∃ ψ r', (∀ B, B < K → ψ B = φ0 B) ∧ en = .returned r' ∧ VR ψ u r' ∧ Rel P W K J ψ (heapC K s') w') l a w := by
    intro p' hle he
    refine wpL_mono (fun y a' w' hp => ?_) _ _ _ (evalL_ok (J := J) hX hN hcA hm l hok φ _ _ a w _ _ _ he R E hdf)
    obtain ⟨rfl, hdf', ψ0, hle0, R', E'⟩ := hp
    obtain ⟨v', k1, k2⟩ := results_ok R' E' (resC_spec hle _ _ hvs)
    have hag' : ∀ B, B < K → ψ0 B = φ0 B := fun B hB => by
      obtain ⟨z, hz⟩ := St.self (φ0 := φ0) R B hB
      rw [← hag B hB, hz, hle0 B z hz]
    have hs := hsub
    -- the final state, under its names
    have hR : ∃ rl, renM K (renOf K rl) ψ0 = renM K (renOf K (nm vs e h)) ψ0 := ⟨_, rfl⟩
    obtain ⟨χ, g1, g2, _⟩ := sub_ok' R' E' hle hs
    have hv : VR (renM K (renOf K (nm vs e h)) ψ0) u v' := renB_ok _ _ _ hren k2
    rw [← g1] at hv
    have g1' : ∀ B, B < K → χ B = φ0 B := fun B hB => by rw [g1]; unfold renM; rw [if_pos hB]; exact hag' B hB
    cases y with
    | normal => exact ⟨hdf', v', k1, χ, v', g1', rfl, hv, g2⟩
    | ret => exact ⟨hdf', v', k1, χ, v', g1', rfl, hv, g2⟩
    | _ => cases hx
  rcases hf _ _ _ _ _ hr (e3C_le h1) with ⟨e1, p1, h1', g1, g2, g3⟩ | ⟨x1, e1, p1, h1', g1, g2, g3, g4⟩
  · cases g3; exact fin p1 g2 g1
  · cases g4; exact fin p1 g3 g1
/-- A function done in one. -/
theorem whole_ok (hX : ∀ W, ExtOk P W K X) (hN : NamesOk P) (hm : P.follows .mixedOrders = true) (hcA : ∀ W, CallGood P W K callA) (hle : CallLe call callA) {L : Nat} {fid : FuncId} {fn : Func} {c : Code} (hfn : P.funcs[fid]? = some fn) (hbody : fn.body = some c) (hok : (flatC c).all (codeOk fn.ntmps) = true) {args : List Value} (hlen : args.length ≤ fn.ntmps)
    {G : Nat → Bool} {nm : List Value → E3 → AHeap → List Nat} {u : Value} {s' : CS} (hb : finG P K G (codeK P K X call G L (seqOf (flatC c))).run fn.results.toList nm ⟨args.zipIdx.map fun p => (p.2, p.1), []⟩ u s' = true) : FnTold P K fid args u s' :=
  entry_ok hfn hbody rfl hlen fun W J φ0 => finG_ok (J := J) (hX W) hN (hcA W) hm (fun c hc => List.all_eq_true.1 hok c hc) (codeK_ok hle _) hb
/-! ### Told calls, at any memory -/
/-- The told blocks that a value leads to, laid behind what there is. -/
def graftF (K δ : Nat) (s : CS) : List Nat → PT AObj → Option (PT AObj)
  | [], m => some m
  | B :: r, m => match s.obs[B - K]? with
    | some (.cells l e) => cond (Nat.ble K B && (Nat.blt l.length 1000000 && l.all (plainV K))) (graftF K δ s r (m.set (B + δ) (.cells (rowT 20 l) l.length e))) none
    | _ => none
theorem graftF_eq {K δ : Nat} {s : CS} : ∀ (L : List Nat) (m m' : PT AObj), graftF K δ s L m = some m' → graft K δ (heapC K s) L m = m'
  | [], m, m', h => by cases h; rfl
  | B :: r, m, m', h => by
    simp only [graftF] at h
    split at h
    · rename_i l e hc
      cases hb : (Nat.ble K B && (Nat.blt l.length 1000000 && l.all (plainV K))) with
      | false => rw [hb] at h; cases h
      | true =>
        rw [hb] at h
        simp only [Bool.and_eq_true] at hb
        obtain ⟨h1, h2, h3⟩ := hb
        have hKB : K ≤ B := Nat.le_of_ble_eq_true h1
        have hlt : l.length < 1000000 := by simp only [Nat.blt] at h2; exact Nat.le_of_ble_eq_true h2
        have hlo := (List.getElem?_eq_some_iff.1 hc).1
        have hg : (heapC K s).m.get B = some (.cells (rowT 20 l) l.length e) := by
          simp only [heapC]
          rw [PT.get_put, if_pos ⟨hKB, by simp only [List.length_map]; omega⟩, List.getElem?_map, hc]
          rfl
        have hrow : (rowT 20 l).row 0 l.length = some l := PT.row_of _ _ _ _ rfl fun j hj => by rw [Nat.zero_add]; exact rowT_get 20 l j (by omega)
        simp only [graft, hg, hrow]
        rw [if_pos ⟨hKB, h3⟩]
        exact graftF_eq r _ _ h
    · cases h
def memoF (K : Nat) (u : Value) (s : CS) (h : AHeap) : Option (Value × AHeap) :=
  cond (Nat.ble K h.next) (match shV K (h.next - K) 4 u with
    | some v => match graftF K (h.next - K) s (tops K 4 u) h.m with
      | some m => some (v, ⟨m, h.next + s.obs.length, h.ro⟩)
      | none => none
    | none => none) none
theorem memoF_eq {u : Value} {s : CS} {h : AHeap} {r : Value × AHeap} (hr : memoF K u s h = some r) : memo K (some (u, heapC K s)) h = some r := by
  unfold memoF at hr
  cases hb : Nat.ble K h.next with
  | false => rw [hb] at hr; cases hr
  | true =>
    rw [hb] at hr
    simp only [cond_true] at hr
    have hK := Nat.le_of_ble_eq_true hb
    unfold memo
    simp only
    rw [if_pos ⟨by simp [heapC], hK, rfl⟩]
    split at hr
    · rename_i v hv
      split at hr
      · rename_i m hm
        cases hr
        rw [hv]
        simp only
        rw [graftF_eq _ _ _ hm]
        simp [heapC]
      · cases hr
    · cases hr
/-- Told calls, at any memory. -/
def toldM (K : Nat) (ts : Tolds) : Orc := fun f => match ts.lookup f with
  | some (as, u, s) => some fun args h => cond (vsames args as) (memoF K u s h) none
  | none => none
def callOf (K : Nat) (ts : Tolds) : ACall := fun f args h => match toldF K ts f with
  | some g => g args h
  | none => none
theorem callOf_good {ts : Tolds} (ht : ∀ f as u s, ts.lookup f = some (as, u, s) → FnTold P K f as u s) : CallGood P W K (callOf K ts) := by
  intro f args h r h' he J φ w args' R ha
  unfold callOf at he
  split at he
  · rename_i g hg
    exact toldF_ok ht f g hg args h r h' he J φ w args' R ha
  · cases he
theorem vsame_refl (v : Value) : vsame v v = true := by
  cases v with
  | string s => show beqL s.data.toList s.data.toList = true; rw [beqL_eq]; simp
  | _ => exact veq_refl _
theorem vsames_refl : ∀ l : List Value, vsames l l = true
  | [] => rfl
  | a :: l => by simp only [vsames, vsame_refl, vsames_refl l, Bool.and_self]
theorem toldM_ok {ts : Tolds} (ht : ∀ f as u s, ts.lookup f = some (as, u, s) → FnTold P K f as u s) (hp : ∀ f as u s, ts.lookup f = some (as, u, s) → as.all (plainV K) = true) : OrcOk P W K (toldM K ts) := by
  intro f g hg args h r h' he J φ w args' R ha
  unfold toldM at hg
  split at hg
  case h_2 => cases hg
  rename_i as u s hl
  cases hg
  simp only at he
  cases hv : vsames args as with
  | false => rw [hv] at he; cases he
  | true =>
    rw [hv] at he
    have hv := vsames_eq _ _ hv
    subst hv
    have h1 : callOf K ts f args (heap0 K []) = some (u, heapC K s) := by
      unfold callOf toldF
      rw [hl]
      simp only
      rw [if_pos]
      simp [heap0, vsames_refl]
    have h2 := memoF_eq he
    rw [← h1] at h2
    exact memo_ok (w := w) (callOf_good ht) (hp f _ _ _ hl) h2 R ha
end
end Go.Ab
