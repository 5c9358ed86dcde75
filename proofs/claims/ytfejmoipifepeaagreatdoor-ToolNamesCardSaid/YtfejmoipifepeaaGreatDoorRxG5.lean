/- Regions whose order is drawn come to one end. -/
import Derived.Test.YtfejmoipifepeaaGreatDoorRxG3
import Derived.Test.YtfejmoipifepeaaGreatDoorRxG4
set_option linter.unusedSimpArgs false
set_option linter.unusedVariables false
set_option linter.unusedSectionVars false
namespace Go.Rx

theorem Grows.wide {ρ : Ren} {h : HF} {n : Nat} {w : World} {ρ' : Ren} {h' : HF} {n' n'' : Nat} {w' : World} (g : Grows ρ h n w ρ' h' n' w') (hn : n' ≤ n'') : Grows ρ h n w ρ' h' n'' w' :=
  ⟨g.le, fun i hi => g.same i (by omega), Nat.le_trans g.nle hn, g.keeps, g.size, g.owns, fun i o hi => (g.dom i o hi).imp id (fun ⟨a, b⟩ => ⟨a, by omega⟩), g.os, g.tape, g.output, g.rom⟩

theorem Grows.step {ρ ρ' ρ'' : Ren} {h h' h'' : HF} {n a b nF : Nat} {w w' w'' : World}
    (g : Grows ρ h n w ρ' h' nF w') (k : Grows ρ' h' a w' ρ'' h'' b w'') (ha : n ≤ a) (hb : b ≤ nF) : Grows ρ h n w ρ'' h'' nF w'' where
  le := g.le.trans k.le
  same := fun i hi => by
    have := k.nle
    rw [k.same i (by omega), g.same i hi]
  nle := g.nle
  keeps := fun q hq hn => by
    rw [k.keeps q (Nat.lt_of_lt_of_le hq g.size) (fun ho => by
      rcases g.owns q ho with h | h
      · exact hn h
      · omega), g.keeps q hq hn]
  size := Nat.le_trans g.size k.size
  owns := fun q hq => by
    rcases k.owns q hq with h | h
    · exact g.owns q h
    · exact .inr (Nat.le_trans g.size h)
  dom := fun i o hi => by
    have := k.nle
    rcases k.dom i o hi with ⟨o', h⟩ | h
    · exact g.dom i o' h
    · exact .inr (by omega)
  os := k.os.trans g.os
  tape := k.tape.trans g.tape
  output := k.output.trans g.output
  rom := fun i l p hi hp => by
    obtain ⟨h1, h2⟩ := g.rom i l p hi hp
    obtain ⟨h3, h4⟩ := k.rom i l p h2 (g.le i p hp)
    exact ⟨h3.trans h1, h4⟩

section
variable {P : Program} {env : Env} {G : Cfg} {nt : Nat} {call : CallFn} {ops : Array Oper} {sts : Nat → St} {anc : Nat → Nat → Bool}

/- An operation that makes a block. -/
def IsA (P : Program) (ops : Array Oper) (sts : Nat → St) (i : Nat) : Prop := ∃ o, ops[i]? = some o ∧ kindOf P o.op = 2 ∧ wantedA ops (sts i).tmps o = some true

structure Tr (P : Program) (G : Cfg) (call : CallFn) (nt : Nat) (ops : Array Oper) (sts : Nat → St) : Prop where
  step : ∀ i o, ops[i]? = some o → stepA P G call nt ops o (sts i) = some (sts (i + 1))
  mono : ∀ i o, ops[i]? = some o → (sts i).next ≤ (sts (i + 1)).next

theorem stepA_cases {o : Oper} {st st' : St} (h : stepA P G call nt ops o st = some st') :
    (wantedA ops st.tmps o = some false ∧ putA nt st.tmps o.dst (.tuple []) = some st'.tmps ∧ st'.heap = st.heap ∧ st'.next = st.next) ∨
    (wantedA ops st.tmps o = some true ∧ evalO P G call nt o st = some st') := by
  unfold stepA at h
  split at h
  · rename_i hw; exact .inr ⟨hw, h⟩
  · rename_i hw
    split at h
    · rename_i τ hτ; cases h; exact .inl ⟨hw, hτ, rfl, rfl⟩
    · cases h
  · cases h

theorem evalO_kind {o : Oper} {st st' : St} (h : evalO P G call nt o st = some st') :
    (kindOf P o.op = 0 ∧ finV nt st o.dst (evalPS P G (opd G st.tmps) o.op) = some st') ∨
    (kindOf P o.op = 1 ∧ finV nt st o.dst (evalR P (opd G st.tmps) st.heap o.op) = some st') ∨
    (kindOf P o.op = 2 ∧ finA nt st o.dst (evalA P (opd G st.tmps) st.next o.op) = some st') ∨
    (3 ≤ kindOf P o.op ∧ (finW nt st o.dst (evalW P (opd G st.tmps) st.heap st.next o.op) = some st' ∨ finW nt st o.dst (evalCall P G call o.op st) = some st')) := by
  unfold evalO at h
  split at h
  · rename_i hk; exact .inl ⟨hk, h⟩
  · rename_i hk; exact .inr (.inl ⟨hk, h⟩)
  · rename_i hk; exact .inr (.inr (.inl ⟨hk, h⟩))
  · rename_i hk; exact .inr (.inr (.inr ⟨by omega, .inl h⟩))
  · rename_i h0 h1 h2 h3
    refine .inr (.inr (.inr ⟨?_, .inr h⟩))
    rcases Nat.lt_or_ge (kindOf P o.op) 3 with hlt | hge
    · exact absurd hlt (by
        intro hlt
        have : kindOf P o.op = 0 ∨ kindOf P o.op = 1 ∨ kindOf P o.op = 2 := by omega
        rcases this with e | e | e
        · exact h0 e
        · exact h1 e
        · exact h2 e)
    · exact hge

theorem isA_spec (T : Tr P G call nt ops sts) {i : Nat} {o : Oper} (ho : ops[i]? = some o) (hk : kindOf P o.op = 2) (hw : wantedA ops (sts i).tmps o = some true) :
    ∃ v x, evalA P (opd G (sts i).tmps) (sts i).next o.op = some (v, x) ∧ (sts (i + 1)).next = (sts i).next + 1 ∧
      (sts (i + 1)).heap.get = HF.up (sts i).heap.get (sts i).next (some x) ∧ putA nt (sts i).tmps o.dst v = some (sts (i + 1)).tmps := by
  rcases stepA_cases (T.step i o ho) with ⟨h, _⟩ | ⟨_, h⟩
  · rw [hw] at h; cases h
  · rcases evalO_kind h with ⟨k, _⟩ | ⟨k, _⟩ | ⟨k, h⟩ | ⟨k, _⟩
    · omega
    · omega
    · obtain ⟨v, x, hv, e1, e2, hput⟩ := finA_next h
      exact ⟨v, x, hv, e1, HF.get_put e2, hput⟩
    · omega

theorem quiet_spec (T : Tr P G call nt ops sts) {i : Nat} {o : Oper} (ho : ops[i]? = some o) (hk : kindOf P o.op < 3) (hn : ¬ IsA P ops sts i) :
    (sts (i + 1)).heap = (sts i).heap ∧ (sts (i + 1)).next = (sts i).next := by
  rcases stepA_cases (T.step i o ho) with ⟨_, _, h1, h2⟩ | ⟨hw, h⟩
  · exact ⟨h1, h2⟩
  · rcases evalO_kind h with ⟨k, h⟩ | ⟨k, h⟩ | ⟨k, h⟩ | ⟨k, _⟩
    · obtain ⟨v, _, e1, e2, _⟩ := finV_next h; exact ⟨e2, e1⟩
    · obtain ⟨v, _, e1, e2, _⟩ := finV_next h; exact ⟨e2, e1⟩
    · exact absurd ⟨o, ho, k, hw⟩ hn
    · omega

theorem put_spec (T : Tr P G call nt ops sts) {i : Nat} {o : Oper} (ho : ops[i]? = some o) : ∃ v, putA nt (sts i).tmps o.dst v = some (sts (i + 1)).tmps := by
  rcases stepA_cases (T.step i o ho) with ⟨_, h, _⟩ | ⟨_, h⟩
  · exact ⟨_, h⟩
  · rcases evalO_kind h with ⟨k, h⟩ | ⟨k, h⟩ | ⟨k, h⟩ | ⟨k, h | h⟩
    · obtain ⟨v, _, _, _, hp⟩ := finV_next h; exact ⟨v, hp⟩
    · obtain ⟨v, _, _, _, hp⟩ := finV_next h; exact ⟨v, hp⟩
    · obtain ⟨v, _, _, _, _, hp⟩ := finA_next h; exact ⟨v, hp⟩
    · obtain ⟨v, _, _, _, _, _, hp⟩ := finW_next h; exact ⟨v, hp⟩
    · obtain ⟨v, _, _, _, _, _, hp⟩ := finW_next h; exact ⟨v, hp⟩

theorem op_at {i : Nat} (h : i < ops.size) : ∃ o, ops[i]? = some o := ⟨ops[i], Array.getElem?_eq_getElem h⟩
theorem op_lt {i : Nat} {o : Oper} (h : ops[i]? = some o) : i < ops.size := (Array.getElem?_eq_some_iff.1 h).1

theorem next_le (T : Tr P G call nt ops sts) {i : Nat} : ∀ {j : Nat}, i ≤ j → j ≤ ops.size → (sts i).next ≤ (sts j).next := by
  intro j hij
  induction hij with
  | refl => intro _; exact Nat.le_refl _
  | step h ih =>
    rename_i m
    intro hm
    obtain ⟨o, ho⟩ := op_at (ops := ops) (i := m) (by omega)
    exact Nat.le_trans (ih (by omega)) (T.mono m o ho)

theorem isA_next (T : Tr P G call nt ops sts) {i : Nat} (h : IsA P ops sts i) : (sts (i + 1)).next = (sts i).next + 1 := by
  obtain ⟨o, ho, hk, hw⟩ := h
  obtain ⟨_, _, _, h, _⟩ := isA_spec T ho hk hw
  exact h

theorem isA_lt {i : Nat} (h : IsA P ops sts i) : i < ops.size := by
  obtain ⟨o, ho, _⟩ := h
  exact op_lt ho

theorem isA_inj (T : Tr P G call nt ops sts) {i j : Nat} (hi : IsA P ops sts i) (hj : IsA P ops sts j) (e : (sts i).next = (sts j).next) : i = j := by
  have := isA_next T hi
  have := isA_next T hj
  have := isA_lt hi
  have := isA_lt hj
  rcases Nat.lt_trichotomy i j with h | h | h
  · have := next_le T (i := i + 1) (j := j) h (by omega); omega
  · exact h
  · have := next_le T (i := j + 1) (j := i) h (by omega); omega

open Classical in
noncomputable def newX (P : Program) (ops : Array Oper) (sts : Nat → St) (id : Nat) : Option AObj :=
  if h : ∃ j, IsA P ops sts j ∧ (sts j).next = id then (sts (Classical.choose h + 1)).heap.get id else none

theorem newX_at (T : Tr P G call nt ops sts) {j : Nat} (h : IsA P ops sts j) : newX P ops sts (sts j).next = (sts (j + 1)).heap.get (sts j).next := by
  have hex : ∃ k, IsA P ops sts k ∧ (sts k).next = (sts j).next := ⟨j, h, rfl⟩
  have hc := Classical.choose_spec hex
  have : Classical.choose hex = j := isA_inj T hc.1 h hc.2
  unfold newX
  rw [dif_pos hex, this]

open Classical in
/- The heap when the operations of S are done, those that turn memory being the ones ahead of c. -/
noncomputable def heapS (P : Program) (ops : Array Oper) (sts : Nat → St) (S : Nat → Prop) (c : Nat) : HF := fun id =>
  if ∃ j, c ≤ j ∧ S j ∧ IsA P ops sts j ∧ (sts j).next = id then newX P ops sts id else (sts c).heap.get id

theorem heapS_new {S : Nat → Prop} {c id : Nat} (h : ∃ j, c ≤ j ∧ S j ∧ IsA P ops sts j ∧ (sts j).next = id) : heapS P ops sts S c id = newX P ops sts id := by
  unfold heapS; rw [if_pos h]

theorem heapS_old {S : Nat → Prop} {c id : Nat} (h : ¬ ∃ j, c ≤ j ∧ S j ∧ IsA P ops sts j ∧ (sts j).next = id) : heapS P ops sts S c id = (sts c).heap.get id := by
  unfold heapS; rw [if_neg h]

theorem heapS_congr {S S' : Nat → Prop} {c : Nat} (h : ∀ j, c ≤ j → IsA P ops sts j → (S j ↔ S' j)) : heapS P ops sts S c = heapS P ops sts S' c := by
  funext id
  have : (∃ j, c ≤ j ∧ S j ∧ IsA P ops sts j ∧ (sts j).next = id) ↔ (∃ j, c ≤ j ∧ S' j ∧ IsA P ops sts j ∧ (sts j).next = id) :=
    ⟨fun ⟨j, a, b, d, e⟩ => ⟨j, a, (h j a d).1 b, d, e⟩, fun ⟨j, a, b, d, e⟩ => ⟨j, a, (h j a d).2 b, d, e⟩⟩
  by_cases hx : ∃ j, c ≤ j ∧ S j ∧ IsA P ops sts j ∧ (sts j).next = id
  · rw [heapS_new hx, heapS_new (this.1 hx)]
  · rw [heapS_old hx, heapS_old (fun e => hx (this.2 e))]

/- One block more. -/
theorem heapS_up (T : Tr P G call nt ops sts) {S : Nat → Prop} {c i : Nat} (hc : c ≤ i) (hi : IsA P ops sts i) {x : AObj} (hx : (sts (i + 1)).heap.get (sts i).next = some x) :
    heapS P ops sts (fun k => S k ∨ k = i) c = HF.up (heapS P ops sts S c) (sts i).next (some x) := by
  funext id
  unfold HF.up
  split
  · rename_i e; subst e
    rw [heapS_new ⟨i, hc, .inr rfl, hi, rfl⟩, newX_at T hi, hx]
  · rename_i hne
    by_cases h : ∃ j, c ≤ j ∧ S j ∧ IsA P ops sts j ∧ (sts j).next = id
    · rw [heapS_new h]
      obtain ⟨j, a, b, d⟩ := h
      exact heapS_new ⟨j, a, .inl b, d⟩
    · rw [heapS_old h]
      refine heapS_old fun ⟨j, a, b, d, e⟩ => ?_
      rcases b with b | b
      · exact h ⟨j, a, b, d, e⟩
      · subst b; exact hne e.symm

/- From c on, where nothing turns memory. -/
theorem heap_run (T : Tr P G call nt ops sts) {c : Nat} : ∀ {i : Nat}, c ≤ i → i ≤ ops.size → (∀ m om, c ≤ m → m < i → ops[m]? = some om → kindOf P om.op < 3) →
    (sts i).heap.get = heapS P ops sts (fun k => k < i) c := by
  intro i hci
  induction hci with
  | refl =>
    intro _ _
    funext id
    exact (heapS_old (fun ⟨j, a, b, _⟩ => by omega)).symm
  | step h ih =>
    rename_i m
    intro hm hq
    obtain ⟨o, ho⟩ := op_at (ops := ops) (i := m) (by omega)
    have ih' := ih (by omega) (fun k ok a b => hq k ok a (by omega))
    have hkm := hq m o h (by omega) ho
    have hS : ∀ j, (j < m + 1) ↔ (j < m ∨ j = m) := fun j => by omega
    by_cases hA : IsA P ops sts m
    · obtain ⟨o', ho', hk, hw⟩ := hA
      obtain ⟨v, x, _, _, e2, _⟩ := isA_spec T ho' hk hw
      have hx : (sts (m + 1)).heap.get (sts m).next = some x := by rw [e2]; simp [HF.up]
      have := heapS_up (S := fun k => k < m) T h ⟨o', ho', hk, hw⟩ hx
      rw [e2, ih', ← this]
      exact (heapS_congr fun j _ _ => hS j).symm
    · rw [(quiet_spec T ho hkm hA).1, ih']
      refine heapS_congr fun j _ hj => ?_
      rw [hS]
      constructor
      · exact .inl
      · rintro (e | e)
        · exact e
        · subst e; exact absurd hj hA

/- It is part of what there is. -/
theorem heap_sub (T : Tr P G call nt ops sts) {S : Nat → Prop} {c i : Nat} (hc : c ≤ i) (hi : i ≤ ops.size) (hq : ∀ m om, c ≤ m → m < i → ops[m]? = some om → kindOf P om.op < 3)
    (hS : ∀ m, c ≤ m → m < i → IsA P ops sts m → S m) (hd : ∀ id, (sts c).heap.get id ≠ none → ¬ ((sts c).next ≤ id ∧ id < (sts ops.size).next)) {id : Nat} {o : AObj} (h : (sts i).heap.get id = some o) :
    heapS P ops sts S c id = some o := by
  rw [heap_run T hc hi hq] at h
  by_cases hx : ∃ j, c ≤ j ∧ j < i ∧ IsA P ops sts j ∧ (sts j).next = id
  · rw [heapS_new hx] at h
    obtain ⟨j, a, b, d, e⟩ := hx
    rw [heapS_new ⟨j, a, hS j a b d, d, e⟩]; exact h
  · rw [heapS_old hx] at h
    rw [heapS_old]; exact h
    rintro ⟨j, a, b, d, e⟩
    have h1 := isA_next T d
    have h2 := isA_lt d
    have h3 := next_le T a (by omega)
    have h4 := next_le T (i := j + 1) (j := ops.size) (by omega) (Nat.le_refl _)
    exact hd id (by rw [h]; simp) (by omega)

theorem heap_names (T : Tr P G call nt ops sts) {c i : Nat} (hc : c ≤ i) (hi : i ≤ ops.size) (hq : ∀ m om, c ≤ m → m < i → ops[m]? = some om → kindOf P om.op < 3)
    (hd : ∀ id, (sts c).heap.get id ≠ none → ¬ ((sts c).next ≤ id ∧ id < (sts ops.size).next)) {id : Nat} (h : (sts i).heap.get id ≠ none) : ¬ ((sts i).next ≤ id ∧ id < (sts ops.size).next) := by
  rw [heap_run T hc hi hq] at h
  by_cases hx : ∃ j, c ≤ j ∧ j < i ∧ IsA P ops sts j ∧ (sts j).next = id
  · obtain ⟨j, a, b, d, e⟩ := hx
    have h1 := isA_next T d
    have h2 := next_le T (i := j + 1) (j := i) (by omega) hi
    omega
  · rw [heapS_old hx] at h
    have := hd id h
    have := next_le T hc hi
    omega

theorem tmps_same (T : Tr P G call nt ops sts) {i : Nat} {o : Oper} (ho : ops[i]? = some o) {t : Nat} (h : o.dst ≠ some t) : (sts (i + 1)).tmps.get t = (sts i).tmps.get t := by
  obtain ⟨v, hp⟩ := put_spec T ho
  unfold putA at hp
  cases hd : o.dst with
  | none =>
    simp only [hd, Option.some.injEq] at hp
    rw [← hp]
  | some d =>
    simp only [hd] at hp
    split at hp
    · rw [Go.Rx.T.get_put _ _ _ _ _ hp]
      rw [if_neg (fun e => h (by rw [hd, ← e]))]
    · cases hp

theorem tmps_range (T : Tr P G call nt ops sts) {t i : Nat} : ∀ {j : Nat}, i ≤ j → j ≤ ops.size → (∀ m om, i ≤ m → m < j → ops[m]? = some om → om.dst ≠ some t) → (sts j).tmps.get t = (sts i).tmps.get t := by
  intro j hij
  induction hij with
  | refl => intro _ _; rfl
  | step h ih =>
    rename_i m
    intro hm hq
    obtain ⟨o, ho⟩ := op_at (ops := ops) (i := m) (by omega)
    rw [tmps_same T ho (hq m o h (by omega) ho), ih (by omega) fun k ok a b => hq k ok a (by omega)]
end
end Go.Rx
