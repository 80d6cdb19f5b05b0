/- The abstract evaluator: regions whose order is left open: the proof. -/
import Derived.Test.YtcfmeiejfofgpaaGreatDoorAbM
namespace Go.Ab
open Go.RowKit
set_option linter.unusedVariables false
set_option linter.unusedSectionVars false

section
variable [Sg] {P : Program} {W : World} {K : Nat} {J : Nat → Option Obj}

/-- The text's run of a region, and all that is known of it. -/
structure Run (P : Program) (K : Nat) (X : Ext) (call : ACall) (ops : Array Oper) (e0 : PT Value) (h0 : AHeap) (st : List RSt) : Prop where
  len : st.length = ops.size + 1
  zero : ∃ v, st[0]? = some ⟨e0, h0, v⟩
  step : ∀ (i : Nat) (o : Oper), ops[i]? = some o → ∃ s t, st[i]? = some s ∧ st[i + 1]? = some t ∧ StepAt P K X call ops o s t

theorem Run.env {X : Ext} {call : ACall} {ops : Array Oper} {e0 : PT Value} {h0 : AHeap} {st : List RSt} (r : Run P K X call ops e0 h0 st) : ∀ (i : Nat) (s : RSt), i ≤ ops.size → st[i]? = some s → ∀ d v, s.e.get d = some v →
    (∃ j o t, j < i ∧ ops[j]? = some o ∧ o.dst = some d ∧ st[j]? = some t ∧ v = t.v) ∨ (e0.get d = some v ∧ ∀ (j : Nat) (o : Oper), j < i → ops[j]? = some o → o.dst ≠ some d) := by
  intro i
  induction i with
  | zero =>
    intro s _ hs d v hv
    obtain ⟨v0, h0'⟩ := r.zero
    rw [hs] at h0'
    cases h0'
    exact .inr ⟨hv, fun j o hj => by omega⟩
  | succ i ih =>
    intro s hi hs d v hv
    obtain ⟨o, ho⟩ : ∃ o, ops[i]? = some o := ⟨ops[i], by simp [show i < ops.size by omega]⟩
    obtain ⟨s0, t, g1, g2, g3, _⟩ := r.step i o ho
    rw [hs] at g2
    cases g2
    rw [g3] at hv
    unfold aput at hv
    split at hv
    · rename_i d' hd'
      rw [PT.get_set] at hv
      split at hv
      · rename_i hdd
        subst hdd
        cases hv
        exact .inl ⟨i, o, s0, by omega, ho, hd', g1, rfl⟩
      · rename_i hdd
        rcases ih s0 (by omega) g1 d v hv with ⟨j, p, t, h1, h2⟩ | ⟨h1, h2⟩
        · exact .inl ⟨j, p, t, by omega, h2⟩
        · refine .inr ⟨h1, fun j p hj hp => ?_⟩
          by_cases hji : j = i
          · subst hji
            rw [ho] at hp; cases hp
            rw [hd']; intro h; cases h; exact hdd rfl
          · exact h2 j p (by omega) hp
    · rename_i hd'
      rcases ih s0 (by omega) g1 d v hv with ⟨j, p, t, h1, h2⟩ | ⟨h1, h2⟩
      · exact .inl ⟨j, p, t, by omega, h2⟩
      · refine .inr ⟨h1, fun j p hj hp => ?_⟩
        by_cases hji : j = i
        · subst hji
          rw [ho] at hp; cases hp
          rw [hd']; intro h; cases h
        · exact h2 j p (by omega) hp

theorem step_quiet {X : Ext} {call : ACall} {ops : Array Oper} {o : Oper} {s t : RSt} (h : StepAt P K X call ops o s t) (hq : quiet o.op = true) : t.h = s.h := by
  obtain ⟨_, h | h⟩ := h
  · exact h.2.2
  · have h := h.2
    unfold astep at h
    split at h
    · cases h
    · rename_i v h1 hx
      cases h
      exact (quiet_same hq hx).1
    · rename_i f args h1 hx
      obtain ⟨_, v, hv⟩ := quiet_same hq hx
      cases hv

/-- Between two places without a writing operation between them the memory is one. -/
theorem Run.same {X : Ext} {call : ACall} {ops : Array Oper} {e0 : PT Value} {h0 : AHeap} {st : List RSt} (r : Run P K X call ops e0 h0 st) {p : Nat} {s : RSt} (hs : st[p]? = some s) : ∀ (k : Nat) (t : RSt), p + k ≤ ops.size → st[p + k]? = some t →
    (∀ (m : Nat) (o : Oper), p ≤ m → m < p + k → ops[m]? = some o → quiet o.op = true) → t.h = s.h := by
  intro k
  induction k with
  | zero => intro t _ ht _; rw [Nat.add_zero] at ht; rw [hs] at ht; cases ht; rfl
  | succ k ih =>
    intro t hk ht hq
    obtain ⟨o, ho⟩ : ∃ o, ops[p + k]? = some o := ⟨ops[p + k], by simp [show p + k < ops.size by omega]⟩
    obtain ⟨s0, t', g1, g2, g3⟩ := r.step _ o ho
    rw [show p + k + 1 = p + (k + 1) by omega, ht] at g2
    cases g2
    rw [step_quiet g3 (hq _ o (by omega) (by omega) ho)]
    exact ih s0 (by omega) g1 (fun m o h1 h2 => hq m o h1 (by omega))

/-- What holds while a region is done, in whatever order. -/
structure Inv (P : Program) (W : World) (K : Nat) (J : Nat → Option Obj) (φ : Map) (ops : Array Oper) (e0 : PT Value) (st : List RSt) (n : Nat) (listed : Array Bool) (a : Act) (w : World) : Prop where
  size : listed.size = ops.size
  closed : Closed ops (fun j => listed.getD j false = true)
  defers : a.defers = []
  tmps : a.tmps.size = n
  mem : ∃ p s ψ, st[p]? = some s ∧ p ≤ ops.size ∧ p ∈ places' ops ∧ (∀ (m : Nat) (o : Oper), ops[m]? = some o → quiet o.op = false → (m < p ↔ listed.getD m false = true)) ∧ φ.le ψ ∧ Rel P W K J ψ s.h w ∧
    (∀ (i : Nat) (o : Oper) (d : Tmp) (t : RSt), ops[i]? = some o → listed.getD i false = true → o.dst = some d → st[i]? = some t → ∃ v', a.tmps[d]? = some v' ∧ VR ψ t.v v') ∧
    (∀ (d : Tmp) (v : Value), e0.get d = some v → (∀ (i : Nat) (o : Oper), ops[i]? = some o → listed.getD i false = true → o.dst ≠ some d) → ∃ v', a.tmps[d]? = some v' ∧ VR ψ v v')

theorem count_set : ∀ (l : List Bool) (i : Nat), l[i]? = some false → (l.set i true).count false + 1 = l.count false := by
  intro l
  induction l with
  | nil => intro i h; simp at h
  | cons b l ih =>
    intro i h
    cases i with
    | zero => simp at h; subst h; simp
    | succ i =>
      simp at h
      have := ih i h
      simp only [List.set_cons_succ, List.count_cons]
      omega

theorem getD_false {listed : Array Bool} {i : Nat} (hi : i < listed.size) (h : listed.getD i true = false) : listed.toList[i]? = some false := by
  simp [hi] at h ⊢; exact h
theorem getD_set' {listed : Array Bool} {i j : Nat} (hi : i < listed.size) : (listed.setIfInBounds i true).getD j false = if i = j then true else listed.getD j false := by
  simp only [Array.getD_eq_getD_getElem?, Array.getElem?_setIfInBounds]
  by_cases h : i = j
  · subst h; simp [hi]
  · simp [h]

theorem mem_places {ops : Array Oper} {m : Nat} {o : Oper} (h : ops[m]? = some o) (hq : quiet o.op = false) : m + 1 ∈ places' ops := by
  refine List.mem_cons_of_mem _ (List.mem_map.2 ⟨m, List.mem_filter.2 ⟨List.mem_range.2 (lt_of_get h), ?_⟩, rfl⟩)
  rw [h]; simp [hq]

theorem put_get_ne {a : Act} {dst : Option Tmp} {d : Tmp} (v : Value) (h : dst ≠ some d) : (a.put dst v).tmps[d]? = a.tmps[d]? := by
  cases dst with
  | none => rfl
  | some e => exact Array.getElem?_setIfInBounds_ne (fun he => h (by rw [he]))

theorem inv_next {φ ψ : Map} {ops : Array Oper} (ok : RegOk ops) {e0 : PT Value} {st : List RSt} {n : Nat} (hd : ∀ o ∈ ops.toList, dstOk n o = true) {listed : Array Bool} {a : Act} {w w' : World} {i : Nat} {o : Oper} {si : RSt} {v' : Value}
    (inv : Inv P W K J φ ops e0 st n listed a w) (ho : ops[i]? = some o) (hun : listed.getD i true = false) (hafter : ∀ e ∈ o.after, Region.binds .any e = true → listed.getD e.on false = true)
    (hanc : ∀ j, isAnc ops i j = true → listed.getD j false = true) (hnot : ∀ q, listed.getD q false = true → isAnc ops q i = false)
    (hsi : st[i]? = some si) (hv : VR ψ si.v v') {p p' : Nat} {s s' : RSt} {ψ0 : Map} (hle0 : ψ0.le ψ) (hle : φ.le ψ)
    (m1 : st[p]? = some s) (m2 : p ≤ ops.size) (m3 : p ∈ places' ops) (m4 : ∀ (m : Nat) (o : Oper), ops[m]? = some o → quiet o.op = false → (m < p ↔ listed.getD m false = true))
    (m7 : ∀ (i : Nat) (o : Oper) (d : Tmp) (t : RSt), ops[i]? = some o → listed.getD i false = true → o.dst = some d → st[i]? = some t → ∃ v', a.tmps[d]? = some v' ∧ VR ψ0 t.v v')
    (m8 : ∀ (d : Tmp) (v : Value), e0.get d = some v → (∀ (i : Nat) (o : Oper), ops[i]? = some o → listed.getD i false = true → o.dst ≠ some d) → ∃ v', a.tmps[d]? = some v' ∧ VR ψ0 v v')
    (hp' : (quiet o.op = true ∧ p' = p) ∨ (quiet o.op = false ∧ p' = i + 1)) (hs' : st[p']? = some s') (R' : Rel P W K J ψ s'.h w') :
    Inv P W K J φ ops e0 st n (listed.setIfInBounds i true) (a.put o.dst v') w' := by
  have hlt : i < listed.size := by rw [inv.size]; exact lt_of_get ho
  have hli : listed.getD i false = false := by simp [hlt] at hun ⊢; exact hun
  have hmem : dstOk n o = true := hd o (by simpa using List.mem_of_getElem? (show ops.toList[i]? = some o by simpa using ho))
  refine ⟨by simpa using inv.size, ?_, by rw [Act.put_defers']; exact inv.defers, ?_, ?_⟩
  · intro j oj hj hl e he hb
    rw [getD_set' hlt] at hl ⊢
    split
    · rfl
    · by_cases hij : i = j
      · subst hij
        rw [ho] at hj; cases hj
        exact hafter e he hb
      · rw [if_neg hij] at hl
        exact inv.closed j oj hj hl e he hb
  · have : (a.put o.dst v').tmps.size = a.tmps.size := by cases o.dst <;> simp [Act.put]
    rw [this]; exact inv.tmps
  · refine ⟨p', s', ψ, hs', ?_, ?_, ?_, hle, R', ?_, ?_⟩
    · rcases hp' with ⟨_, h⟩ | ⟨_, h⟩
      · omega
      · have := lt_of_get ho; omega
    · rcases hp' with ⟨_, h⟩ | ⟨hq, h⟩
      · rw [h]; exact m3
      · rw [h]; exact mem_places ho hq
    · intro m om hm hqm
      rw [getD_set' hlt]
      rcases hp' with ⟨hq, h⟩ | ⟨hq, h⟩
      · have hne : i ≠ m := fun e => by subst e; rw [ho] at hm; cases hm; rw [hq] at hqm; cases hqm
        rw [if_neg hne, h]
        exact m4 m om hm hqm
      · rw [h]
        constructor
        · intro hlm
          by_cases he : i = m
          · rw [if_pos he]
          · rw [if_neg he]
            exact hanc m (ok.mods i m o om ho hm hq hqm (by omega))
        · intro hlm
          by_cases he : i = m
          · omega
          · rw [if_neg he] at hlm
            rcases Nat.lt_or_ge m (i + 1) with h1 | h1
            · exact h1
            · have := hnot m hlm
              rw [ok.mods m i om o hm ho hqm hq (by omega)] at this
              cases this
    · intro j oj d t hj hl hdj ht
      rw [getD_set' hlt] at hl
      by_cases hij : i = j
      · subst hij
        rw [ho] at hj; cases hj
        rw [hsi] at ht; cases ht
        refine ⟨v', ?_, hv⟩
        unfold dstOk at hmem
        rw [hdj] at hmem
        simp only [decide_eq_true_eq] at hmem
        rw [hdj]
        simp [Act.put, inv.tmps, hmem]
      · rw [if_neg hij] at hl
        obtain ⟨u, h1, h2⟩ := m7 j oj d t hj hl hdj ht
        refine ⟨u, ?_, h2.mono hle0⟩
        rw [put_get_ne _ (fun he => hij (ok.dsts i j o oj d ho hj he hdj))]
        exact h1
    · intro d v hv0 hno
      have hod : o.dst ≠ some d := hno i o ho (by rw [getD_set' hlt, if_pos rfl])
      obtain ⟨u, h1, h2⟩ := m8 d v hv0 (fun j oj hj hl => hno j oj hj (by rw [getD_set' hlt]; split; rfl; exact hl))
      exact ⟨u, by rw [put_get_ne _ hod]; exact h1, h2.mono hle0⟩

set_option maxHeartbeats 1000000 in
theorem adraw_any {X : Ext} (hX : ExtOk P W K X) (hN : NamesOk P) {call : ACall} (hc : CallGood P W K call) {ops : Array Oper} {n : Nat} (hd : ∀ o ∈ ops.toList, dstOk n o = true) (ok : RegOk ops) {φ : Map} {e0 : PT Value} {h0 : AHeap} {st : List RSt}
    (r : Run P K X call ops e0 h0 st) (hdyn : dynOk P K X ops (Region.before ops) st = true) {last : RSt} (hlast : st[ops.size]? = some last) {Q : Exit → Act → World → Prop}
    (hQ : ∀ a w, Post P W K J φ n .normal last.e last.h .normal a w → Q .normal a w) :
    ∀ (f : Nat) (listed : Array Bool) (a : Act) (w : World), Inv P W K J φ ops e0 st n listed a w → listed.toList.count false = f → wpAny P .any ops Q f listed a w := by
  have hready : ∀ (listed : Array Bool), listed.size = ops.size → Region.ready .any ops listed = [] → ∀ i, i < ops.size → listed.getD i false = true := by
    intro listed hsz hr i
    induction i using Nat.strongRecOn with
    | _ i ih =>
      intro hi
      cases hli : listed.getD i false with
      | true => rfl
      | false =>
        exfalso
        have hlt : i < listed.size := by omega
        have hmem : i ∈ Region.ready .any ops listed := by
          refine mem_ready.2 ⟨by simp [hlt] at hli ⊢; exact hli, ops[i], by simp [hi], fun e he hb => ?_⟩
          have := ok.edges i ops[i] (by simp [hi]) e he hb
          exact ih e.on this (by omega)
        rw [hr] at hmem; cases hmem
  have hfin : ∀ (listed : Array Bool) (a : Act) (w : World), Inv P W K J φ ops e0 st n listed a w → (∀ i, i < ops.size → listed.getD i false = true) → Q .normal a w := by
    intro listed a w inv hall
    obtain ⟨p, s, ψ, m1, m2, m3, m4, m5, m6, m7, m8⟩ := inv.mem
    refine hQ a w ⟨rfl, inv.defers, ψ, m5, ?_, inv.tmps, fun d v hv => ?_⟩
    · have : last.h = s.h := by
        refine r.same m1 (ops.size - p) last (by omega) (by rw [show p + (ops.size - p) = ops.size by omega]; exact hlast) (fun m o h1 h2 ho => ?_)
        cases hq : quiet o.op with
        | true => rfl
        | false =>
          have := (m4 m o ho hq).2 (hall m (lt_of_get ho))
          omega
      rw [this]; exact m6
    · rcases r.env _ last (Nat.le_refl _) hlast d v hv with ⟨j, o, t, h1, h2, h3, h4, rfl⟩ | ⟨h1, h2⟩
      · exact m7 j o d t h2 (hall j h1) h3 h4
      · exact m8 d v h1 (fun i o ho _ => h2 i o (lt_of_get ho) ho)
  intro f
  induction f with
  | zero =>
    intro listed a w inv hcount
    have hnone : Region.ready .any ops listed = [] := by
      cases hr : Region.ready .any ops listed with
      | nil => rfl
      | cons i l =>
        exfalso
        have hi : i ∈ Region.ready .any ops listed := by rw [hr]; simp
        obtain ⟨h1, o, ho, _⟩ := mem_ready.1 hi
        have hlt : i < listed.size := by rw [inv.size]; exact lt_of_get ho
        have := getD_false hlt h1
        have := count_set _ _ this
        omega
    exact ⟨hnone, hfin listed a w inv (hready listed inv.size hnone)⟩
  | succ f ih =>
    intro listed a w inv hcount
    refine ⟨fun hr => hfin listed a w inv (hready listed inv.size hr), fun i hi => ?_⟩
    obtain ⟨hun, o, ho, hafter⟩ := mem_ready.1 hi
    have hlt : i < listed.size := by rw [inv.size]; exact lt_of_get ho
    have hli : listed.getD i false = false := by simp [hlt] at hun ⊢; exact hun
    have hcnt : (listed.setIfInBounds i true).toList.count false = f := by
      have := count_set _ _ (getD_false hlt hun)
      rw [Array.toList_setIfInBounds]
      omega
    have hanc : ∀ j, isAnc ops i j = true → listed.getD j false = true := by
      intro j hj
      have hcl : Closed ops (fun k => listed.getD k false = true ∨ k = i) := by
        intro k ok' hk hS e he hb
        rcases hS with hS | hS
        · exact .inl (inv.closed k ok' hk hS e he hb)
        · subst hS
          rw [ho] at hk; cases hk
          exact .inl (hafter e he hb)
      rcases anc_closed hcl hj (.inr rfl) with h | h
      · exact h
      · have := anc_lt ok hj; omega
    have hnot : ∀ q, listed.getD q false = true → isAnc ops q i = false := by
      intro q hq
      cases h : isAnc ops q i with
      | false => rfl
      | true =>
        have := anc_closed inv.closed h hq
        rw [hli] at this; cases this
    obtain ⟨p, s, ψ, m1, m2, m3, m4, m5, m6, m7, m8⟩ := inv.mem
    obtain ⟨si, ti, gi, gi1, hsE, hs⟩ := r.step i o ho
    -- the slots that it looks at
    have ER' : ER ψ n (only si.e (o.looksAt ops)) a.tmps := by
      refine ⟨inv.tmps, fun d v hv => ?_⟩
      obtain ⟨hv1, hdl⟩ := (only_get si.e (o.looksAt ops) d).1 v hv
      rcases r.env i si (Nat.le_of_lt (lt_of_get ho)) gi d v hv1 with ⟨j, oj, t, h1, h2, h3, h4, rfl⟩ | ⟨h1, h2⟩
      · have hlj : listed.getD j false = true := by
          rcases ok.reads i j o oj d ho h2 h3 hdl (by omega) with h | h
          · exact hanc j h
          · have := anc_lt ok h; omega
        exact m7 j oj d t h2 hlj h3 h4
      · refine m8 d v h1 (fun q oq hq hlq hdq => ?_)
        have hqi : q ≠ i := fun e => by subst e; rw [hli] at hlq; cases hlq
        have hqgt : ¬ q < i := fun e => h2 q oq e hq hdq
        rcases ok.reads i q o oq d ho hq hdq hdl hqi with h | h
        · have := anc_lt ok h; omega
        · rw [hnot q hlq] at h; cases h
    have hmod : quiet o.op = false → si.h = s.h := by
      intro hq
      by_cases hpi : p ≤ i
      · refine r.same m1 (i - p) si (by have := lt_of_get ho; omega) (by rw [show p + (i - p) = i by omega]; exact gi) (fun m om h1 h2 hm => ?_)
        cases hqm : quiet om.op with
        | true => rfl
        | false =>
          have hlm := hanc m (ok.mods i m o om ho hm hq hqm (by omega))
          have := (m4 m om hm hqm).2 hlm
          omega
      · have := (m4 i o ho hq).1 (by omega)
        rw [hli] at this; cases this
    unfold wpOp
    rw [ho]
    simp only
    rcases hs with ⟨hw, hsv, hth⟩ | ⟨hw, hst⟩
    · rw [awanted_ok ER' (by rw [awanted_only]; exact hw)]
      simp only [Bool.false_eq_true, if_false]
      refine ih _ _ _ ?_ hcnt
      cases hq : quiet o.op with
      | true => exact inv_next ok hd inv ho hun hafter hanc hnot gi (by rw [hsv]; exact VR.undef) (ψ.le_refl) m5 m1 m2 m3 m4 m7 m8 (.inl ⟨hq, rfl⟩) m1 m6
      | false => exact inv_next ok hd inv ho hun hafter hanc hnot gi (by rw [hsv]; exact VR.undef) (ψ.le_refl) m5 m1 m2 m3 m4 m7 m8 (.inr ⟨hq, rfl⟩) gi1 (by rw [hth, hmod hq]; exact m6)
    · rw [awanted_ok ER' (by rw [awanted_only]; exact hw)]
      simp only [if_true]
      left
      have hE := aval_ok m6 ER'
      cases hq : quiet o.op with
      | false =>
        have hst' : astep P K X call o.op (only si.e (o.looksAt ops)) s.h = some (si.v, ti.h) := by
          rw [← hst, hmod hq]
          unfold astep
          rw [aexec_congr (aval_only (K := K) (e := si.e) (ops := ops) (o := o))]
        refine astep_wp hX hN hc (n := n) m6 hE hst' fun ψ' w' v' k1 k2 k3 => ?_
        refine ih _ _ _ ?_ hcnt
        exact inv_next ok hd inv ho hun hafter hanc hnot gi k3 k1 (Map.le_trans m5 k1) m1 m2 m3 m4 m7 m8 (.inr ⟨hq, rfl⟩) gi1 k2
      | true =>
        have hex : aexec P X o.op (aval K si.e) si.h = some (.val si.v, si.h) := by
          unfold astep at hst
          split at hst
          · cases hst
          · rename_i v h1 hx
            cases hst
            have := (quiet_same hq hx).1
            rw [this] at hx; exact hx
          · rename_i f' args h1 hx
            obtain ⟨_, v, hv⟩ := quiet_same hq hx
            cases hv
        have hex2 : aexec P X o.op (aval K si.e) s.h = some (.val si.v, s.h) := by
          cases hr : reads o.op with
          | false => exact quiet_free hq hr hex s.h
          | true =>
            have h1 := List.all_eq_true.1 hdyn i (List.mem_range.2 (lt_of_get ho))
            rw [ho, gi] at h1
            simp only [hq, hr, Bool.not_true, Bool.false_or, hw] at h1
            have h2 := List.all_eq_true.1 h1 p m3
            rw [m1] at h2
            simp only [Bool.or_eq_true, Bool.not_eq_true'] at h2
            rcases h2 with h2 | h2
            · exfalso
              have : allowed ops (Region.before ops) i p = true := by
                refine List.all_eq_true.2 fun m hm => ?_
                cases hom : ops[m]? with
                | none => rfl
                | some om =>
                  simp only [Bool.or_eq_true]
                  cases hqm : quiet om.op with
                  | true => exact .inl rfl
                  | false =>
                    right
                    split
                    · rename_i hmp
                      have hlm := (m4 m om hom hqm).1 hmp
                      have := hnot m hlm
                      unfold isAnc at this
                      rw [this]; rfl
                    · rename_i hmp
                      cases hb : ((Region.before ops).getD i 0).testBit m with
                      | false => rfl
                      | true =>
                        have hlm := hanc m hb
                        exact absurd ((m4 m om hom hqm).2 hlm) hmp
              rw [this] at h2; cases h2
            · cases hx : aexec P X o.op (aval K si.e) s.h with
              | none => rw [hx] at h2; cases h2
              | some r' =>
                obtain ⟨an, h3⟩ := r'
                rw [hx] at h2
                obtain ⟨rfl, v, rfl⟩ := quiet_same hq hx
                simp only at h2
                rw [veq_eq _ _ h2]
        have hst' : astep P K X call o.op (only si.e (o.looksAt ops)) s.h = some (si.v, s.h) := by
          unfold astep
          rw [aexec_congr (aval_only (K := K) (e := si.e) (ops := ops) (o := o)), hex2]
        refine astep_wp hX hN hc (n := n) m6 hE hst' fun ψ' w' v' k1 k2 k3 => ?_
        refine ih _ _ _ ?_ hcnt
        exact inv_next ok hd inv ho hun hafter hanc hnot gi k3 k1 (Map.le_trans m5 k1) m1 m2 m3 m4 m7 m8 (.inl ⟨hq, rfl⟩) m1 k2

theorem adraw_ok {X : Ext} (hX : ExtOk P W K X) (hN : NamesOk P) {call : ACall} (hc : CallGood P W K call) (hm : P.follows .mixedOrders = true) {ops : Array Oper} {n id : Nat} (hd : ∀ o ∈ ops.toList, dstOk n o = true) {φ : Map} {e e' : PT Value} {h h' : AHeap} {a : Act} {w : World}
    (he : adraw P K X call ops e h = some (e', h')) (R : Rel P W K J φ h w) (E : ER φ n e a.tmps) (hdf : a.defers = []) : (Code.region id ops true).wp P (Post P W K J φ n .normal e' h') a w := by
  unfold adraw at he
  split at he
  case isFalse => cases he
  rename_i hok0
  have ok := regOk_of hok0
  split at he
  · cases he
  rename_i st hst
  split at he
  case isFalse => cases he
  rename_i hdyn
  split at he
  case h_2 => cases he
  rename_i last hlast
  cases he
  obtain ⟨h1, h2, h3⟩ := arun_spec _ _ _ _ hst
  have r : Run P K X call ops e h st := ⟨by simpa using h1, h2, fun i o ho => h3 i o (by simpa using ho)⟩
  refine wp_region_any hm ?_
  refine adraw_any hX hN hc hd ok r hdyn hlast (fun a w h => h) ops.size _ a _ ?_ (by simp)
  obtain ⟨v0, h2⟩ := h2
  refine ⟨by simp, fun j oj _ hl => ?_, hdf, E.size, 0, _, φ, h2, Nat.zero_le _, List.mem_cons_self, fun m o hm hq => ⟨fun h => by omega, fun hl => ?_⟩, φ.le_refl, R.drew, fun i o d t _ hl => ?_, fun d v hv _ => E.get d v hv⟩
  all_goals
    exfalso
    simp [Array.getElem?_replicate] at hl
    split at hl <;> simp at hl
end
end Go.Ab
