/- The executor's names only grow. -/
import Derived.Test.YtfejmoipifepeaaGreatDoorRxF6
set_option linter.unusedSimpArgs false
set_option linter.unusedVariables false
set_option linter.unusedSectionVars false
namespace Go.Rx
section
variable {P : Program} {ev : Ev} {t t' : T AObj} {n n' : Nat} {v : AV}

theorem growA_mono {elem : TypeId} {size : Nat} {base : Option (Nat × Nat)} {len cap : Nat} {op : Bool} {need : Nat} {cs : List AV} (h : growA t n elem size base len cap op need cs = some (v, t', n')) : n ≤ n' := by
  unfold growA at h
  repeat' split at h
  all_goals first
    | (cases h; done)
    | (cases h; omega)

theorem appendA_mono {elem : TypeId} {i : TypeInfo} {base : Option (Nat × Nat)} {len cap : Nat} {op : Bool} {k : Nat} {cs : List AV} (h : appendA P t n elem i base len cap op k cs = some (v, t', n')) : n ≤ n' := by
  unfold appendA at h
  split at h
  · split at h
    · cases h; omega
    · split at h
      · cases h; omega
      · cases h
  · split at h
    · exact growA_mono h
    · cases h

theorem evalW_mono {op : Op} (h : evalW P ev t n op = some (v, t', n')) : n ≤ n' := by
  cases op <;> simp only [evalW] at h <;> first
    | (cases h; done)
    | skip
  case store =>
    unfold wStore at h
    repeat' split at h
    all_goals first
      | (cases h; done)
      | (cases h; omega)
  case mapUpdate =>
    unfold wMap at h
    repeat' split at h
    all_goals first
      | (cases h; done)
      | (cases h; omega)
  case next =>
    unfold wNext at h
    repeat' split at h
    all_goals first
      | (cases h; done)
      | (cases h; omega)
  case convert =>
    unfold wSame at h
    repeat' split at h
    all_goals first
      | (cases h; done)
      | (cases h; omega)
  case call c =>
    split at h
    · unfold wAppend at h
      repeat' split at h
      all_goals first
        | (cases h; done)
        | exact appendA_mono h
    · unfold wCopy at h
      repeat' split at h
      all_goals first
        | (cases h; done)
        | (cases h; omega)
    · unfold wDelete at h
      repeat' split at h
      all_goals first
        | (cases h; done)
        | (cases h; omega)
    · cases h

def MonoCall (call : CallFn) : Prop := ∀ f args h n v h' n', call f args h n = some (v, h', n') → n ≤ n'

variable {G : Cfg} {nt : Nat} {call : CallFn} {o : Oper} {st st' : St}

theorem finW_next {dst : Option Tmp} {r : WRes} (h : finW nt st dst r = some st') : ∃ v hp n, r = some (v, hp, n) ∧ st'.next = n ∧ st'.heap = hp ∧ putA nt st.tmps dst v = some st'.tmps := by
  unfold finW at h
  split at h
  · rename_i v hp n
    split at h
    · rename_i τ hτ; cases h; exact ⟨v, hp, n, rfl, rfl, rfl, hτ⟩
    · cases h
  · cases h

theorem finV_next {dst : Option Tmp} {r : Option AV} (h : finV nt st dst r = some st') : ∃ v, r = some v ∧ st'.next = st.next ∧ st'.heap = st.heap ∧ putA nt st.tmps dst v = some st'.tmps := by
  unfold finV at h
  split at h
  · rename_i v
    split at h
    · rename_i τ hτ; cases h; exact ⟨v, rfl, rfl, rfl, hτ⟩
    · cases h
  · cases h

theorem finA_next {dst : Option Tmp} {r : Option (AV × AObj)} (h : finA nt st dst r = some st') : ∃ v x, r = some (v, x) ∧ st'.next = st.next + 1 ∧ T.put K st.heap st.next (some x) = some st'.heap ∧ putA nt st.tmps dst v = some st'.tmps := by
  unfold finA at h
  split at h
  · rename_i v x
    split at h
    · rename_i hp τ h1 h2; cases h; exact ⟨v, x, rfl, rfl, h1, h2⟩
    · cases h
  · cases h

theorem evalCall_mono (hc : MonoCall call) {op : Op} {r : AV × T AObj × Nat} (h : evalCall P G call op st = some r) : st.next ≤ r.2.2 := by
  unfold evalCall at h
  split at h
  · split at h
    · obtain ⟨v, hp, n⟩ := r; exact hc _ _ _ _ _ _ _ h
    · cases h
  · cases h

theorem evalO_mono (hc : MonoCall call) (h : evalO P G call nt o st = some st') : st.next ≤ st'.next := by
  unfold evalO at h
  split at h
  · obtain ⟨v, _, e, _⟩ := finV_next h; omega
  · obtain ⟨v, _, e, _⟩ := finV_next h; omega
  · obtain ⟨v, x, _, e, _⟩ := finA_next h; omega
  · obtain ⟨v, hp, n, e1, e2, _⟩ := finW_next h; rw [e2]; exact evalW_mono e1
  · obtain ⟨v, hp, n, e1, e2, _⟩ := finW_next h; rw [e2]; exact evalCall_mono hc e1

theorem evalOs_mono (hc : MonoCall call) {ops : Array Oper} : ∀ {l : List Oper} {st st' : St}, evalOs P G call nt ops l st = some st' → st.next ≤ st'.next
  | [], st, st', h => by simp [evalOs] at h; rw [h]; exact Nat.le_refl _
  | o :: l, st, st', h => by
    simp only [evalOs] at h
    split at h
    · split at h
      · rename_i st1 h1
        exact Nat.le_trans (evalO_mono hc h1) (evalOs_mono hc h)
      · cases h
    · split at h
      · rename_i τ hτ
        exact evalOs_mono (st := { st with tmps := τ }) hc h
      · cases h
    · cases h

theorem stepA_mono (hc : MonoCall call) {ops : Array Oper} (h : stepA P G call nt ops o st = some st') : st.next ≤ st'.next := by
  unfold stepA at h
  split at h
  · exact evalO_mono hc h
  · split at h
    · cases h; exact Nat.le_refl _
    · cases h
  · cases h

theorem evalTr_mono (hc : MonoCall call) {ops : Array Oper} : ∀ {l : List Oper} {st st' : St} {tr : List St}, evalTr P G call nt ops l st = some (tr, st') → st.next ≤ st'.next
  | [], st, st', tr, h => by simp [evalTr] at h; rw [h.2]; exact Nat.le_refl _
  | o :: l, st, st', tr, h => by
    simp only [evalTr] at h
    split at h
    · rename_i st1 h1
      split at h
      · rename_i r e h2
        cases h
        exact Nat.le_trans (stepA_mono hc h1) (evalTr_mono hc h2)
      · cases h
    · cases h

theorem evalReg_mono (hc : MonoCall call) {ops : Array Oper} {draw : Bool} (h : evalReg P G call nt ops draw st = some st') : st.next ≤ st'.next := by
  unfold evalReg at h
  split at h
  · exact evalOs_mono hc h
  · split at h
    · rename_i tr st1 h1
      split at h
      · cases h; exact evalTr_mono hc h1
      · cases h
    · cases h

theorem evalC_mono (hc : MonoCall call) : ∀ (fuel : Nat) (wk : Work) (st : St) (e : Ex) (st' : St), evalC P G call nt fuel wk st = some (e, st') → st.next ≤ st'.next := by
  intro fuel
  induction fuel with
  | zero => intro wk st e st' h; simp [evalC] at h
  | succ fuel ih =>
    intro wk st e st' h
    cases wk with
    | jump a l =>
      simp only [evalC] at h
      split at h
      · split at h
        · rename_i l' st1 h1
          exact Nat.le_trans (ih _ _ _ _ h1) (ih _ _ _ _ h)
        · exact ih _ _ _ _ h
      · cases h
    | code c =>
      cases c <;> simp only [evalC] at h <;> first
        | (cases h; done)
        | (cases h; exact Nat.le_refl _)
        | skip
      case region id ops d =>
        split at h
        · split at h
          · rename_i st1 h1
            cases h
            exact evalReg_mono hc h1
          · cases h
        · cases h
      case seq a b =>
        split at h
        · rename_i st1 h1
          exact Nat.le_trans (ih _ _ _ _ h1) (ih _ _ _ _ h)
        · exact ih _ _ _ _ h
      case cond x a b =>
        split at h
        · exact ih _ _ _ _ h
        · exact ih _ _ _ _ h
        · cases h
      case block id a =>
        split at h
        · rename_i j st1 h1
          split at h <;> (cases h; exact ih _ _ _ _ h1)
        · exact ih _ _ _ _ h
      case loop a =>
        split at h
        · rename_i st1 h1
          exact Nat.le_trans (ih _ _ _ _ h1) (ih _ _ _ _ h)
        · exact ih _ _ _ _ h
      case scope a =>
        split at h
        · rename_i l st1 h1
          exact Nat.le_trans (ih _ _ _ _ h1) (ih _ _ _ _ h)
        · exact ih _ _ _ _ h

theorem evalX_mono {x : Ext} {args : List AV} (h : evalX x args t n = some (v, t', n')) : n ≤ n' := by
  unfold evalX at h
  repeat' split at h
  all_goals first
    | (cases h; done)
    | (cases h; omega)

theorem evalF_mono {xt : Nat → Option Ext} : ∀ fuel, MonoCall (evalF P G xt fuel) := by
  intro fuel
  induction fuel with
  | zero => intro f args h n v h' n' e; simp [evalF] at e
  | succ fuel ih =>
    intro f args h n v h' n' e
    simp only [evalF] at e
    split at e
    · exact evalX_mono e
    · split at e
      · cases e
      · split at e
        · cases e
        · split at e
          · cases e
          · split at e
            · split at e
              · rename_i st1 h1
                split at e
                · cases e
                  exact evalC_mono ih _ _ { tmps := _, heap := h, next := n } _ _ h1
                · cases e
              · rename_i st1 h1
                split at e
                · cases e
                  exact evalC_mono ih _ _ { tmps := _, heap := h, next := n } _ _ h1
                · cases e
              · cases e
            · cases e
end
end Go.Rx
