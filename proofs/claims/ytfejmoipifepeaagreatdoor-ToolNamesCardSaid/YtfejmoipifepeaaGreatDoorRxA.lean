/- The executor's ground: tries, abstract values and heaps, and how they stand for the model's own. -/
import Derived.Calls
import Derived.Laws.Sem
set_option linter.unusedSimpArgs false
set_option linter.unusedVariables false
set_option linter.unusedSectionVars false
namespace Go.Rx

/- A trie over numbers: 0 at the root, 2m+1 to the left, 2m+2 to the right. -/
inductive T (α : Type) where
  | nil
  | node (v : Option α) (l r : T α)

/- By the recursors themselves: so the kernel has the least to do. -/
noncomputable def T.get {α : Type} (t : T α) : Nat → Option α :=
  T.rec (motive := fun _ => Nat → Option α) (fun _ => none)
    (fun v _ _ gl gr k => Bool.casesOn (motive := fun _ => Option α) (Nat.beq k 0)
      (Bool.casesOn (motive := fun _ => Option α) (Nat.beq (Nat.mod k 2) 1) (gr (Nat.pred (Nat.div k 2))) (gl (Nat.div k 2))) v) t

noncomputable def T.put {α : Type} (fuel : Nat) : T α → Nat → Option α → Option (T α) :=
  Nat.rec (motive := fun _ => T α → Nat → Option α → Option (T α)) (fun _ _ _ => none)
    (fun _ ih t k x => T.casesOn (motive := fun _ => Option (T α)) t
      (Bool.casesOn (motive := fun _ => Option (T α)) (Nat.beq k 0)
        (Bool.casesOn (motive := fun _ => Option (T α)) (Nat.beq (Nat.mod k 2) 1)
          (Option.casesOn (motive := fun _ => Option (T α)) (ih .nil (Nat.pred (Nat.div k 2)) x) none (fun r => some (.node none .nil r)))
          (Option.casesOn (motive := fun _ => Option (T α)) (ih .nil (Nat.div k 2) x) none (fun l => some (.node none l .nil))))
        (some (.node x .nil .nil)))
      (fun v l r => Bool.casesOn (motive := fun _ => Option (T α)) (Nat.beq k 0)
        (Bool.casesOn (motive := fun _ => Option (T α)) (Nat.beq (Nat.mod k 2) 1)
          (Option.casesOn (motive := fun _ => Option (T α)) (ih r (Nat.pred (Nat.div k 2)) x) none (fun r' => some (.node v l r')))
          (Option.casesOn (motive := fun _ => Option (T α)) (ih l (Nat.div k 2) x) none (fun l' => some (.node v l' r))))
        (some (.node x l r)))) fuel

theorem T.put_zero {α : Type} (t : T α) (k : Nat) (x : Option α) : T.put 0 t k x = none := rfl
theorem T.put_nil {α : Type} (n : Nat) (k : Nat) (x : Option α) : T.put (n + 1) (.nil : T α) k x = (match Nat.beq k 0 with
    | true => some (.node x .nil .nil)
    | false => match Nat.beq (k % 2) 1 with
      | true => match T.put n .nil (k / 2) x with
        | some l => some (.node none l .nil)
        | none => none
      | false => match T.put n .nil (k / 2 - 1) x with
        | some r => some (.node none .nil r)
        | none => none) := by
  show Bool.casesOn (motive := fun _ => Option (T α)) (Nat.beq k 0) _ _ = _
  cases Nat.beq k 0 with
  | true => rfl
  | false =>
    show Bool.casesOn (motive := fun _ => Option (T α)) (Nat.beq (k % 2) 1) _ _ = _
    cases Nat.beq (k % 2) 1 with
    | true =>
      show Option.casesOn (motive := fun _ => Option (T α)) (T.put n .nil (k / 2) x) _ _ = _
      cases T.put n .nil (k / 2) x <;> rfl
    | false =>
      show Option.casesOn (motive := fun _ => Option (T α)) (T.put n .nil (k / 2 - 1) x) _ _ = _
      cases T.put n .nil (k / 2 - 1) x <;> rfl
theorem T.put_node {α : Type} (n : Nat) (v : Option α) (l r : T α) (k : Nat) (x : Option α) : T.put (n + 1) (.node v l r) k x = (match Nat.beq k 0 with
    | true => some (.node x l r)
    | false => match Nat.beq (k % 2) 1 with
      | true => match T.put n l (k / 2) x with
        | some l' => some (.node v l' r)
        | none => none
      | false => match T.put n r (k / 2 - 1) x with
        | some r' => some (.node v l r')
        | none => none) := by
  show Bool.casesOn (motive := fun _ => Option (T α)) (Nat.beq k 0) _ _ = _
  cases Nat.beq k 0 with
  | true => rfl
  | false =>
    show Bool.casesOn (motive := fun _ => Option (T α)) (Nat.beq (k % 2) 1) _ _ = _
    cases Nat.beq (k % 2) 1 with
    | true =>
      show Option.casesOn (motive := fun _ => Option (T α)) (T.put n l (k / 2) x) _ _ = _
      cases T.put n l (k / 2) x <;> rfl
    | false =>
      show Option.casesOn (motive := fun _ => Option (T α)) (T.put n r (k / 2 - 1) x) _ _ = _
      cases T.put n r (k / 2 - 1) x <;> rfl

theorem T.get_nil {α : Type} (k : Nat) : (T.nil : T α).get k = none := rfl
theorem T.get_node {α : Type} (v : Option α) (l r : T α) (k : Nat) :
    (T.node v l r).get k = if k = 0 then v else if k % 2 = 1 then l.get (k / 2) else r.get (k / 2 - 1) := by
  show Bool.casesOn (motive := fun _ => Option α) (Nat.beq k 0) _ _ = _
  cases h : Nat.beq k 0 with
  | true => rw [if_pos (Nat.eq_of_beq_eq_true h)]
  | false =>
    have h0 : k ≠ 0 := fun e => by subst e; simp at h
    rw [if_neg h0]
    show Bool.casesOn (motive := fun _ => Option α) (Nat.beq (k % 2) 1) _ _ = _
    cases h2 : Nat.beq (k % 2) 1 with
    | true => rw [if_pos (Nat.eq_of_beq_eq_true h2)]; rfl
    | false =>
      have h3 : k % 2 ≠ 1 := fun e => by rw [e] at h2; simp at h2
      rw [if_neg h3]; rfl

theorem T.get_put {α : Type} (x : Option α) : ∀ (n : Nat) (t t' : T α) (k : Nat), T.put n t k x = some t' →
    ∀ j, t'.get j = if j = k then x else t.get j := by
  intro n
  induction n with
  | zero => intro t t' k h; simp [T.put_zero] at h
  | succ n ih =>
    have left : ∀ (v : Option α) (l l' r : T α) (k : Nat), k ≠ 0 → k % 2 = 1 → T.put n l (k / 2) x = some l' →
        ∀ j, (T.node v l' r).get j = if j = k then x else (T.node v l r).get j := by
      intro v l l' r k hk hm hl j
      have := ih _ _ _ hl (j / 2)
      simp only [T.get_node]
      by_cases hj : j = 0
      · have : ¬ (0 = k) := fun e => hk e.symm
        simp [hj, this]
      · by_cases hjm : j % 2 = 1
        · simp only [hj, hjm, if_true, if_false, this]
          have : (j / 2 = k / 2) ↔ j = k := by omega
          simp [this]
        · have hne : ¬ j = k := by omega
          simp [hj, hjm, hne]
    have right : ∀ (v : Option α) (l r r' : T α) (k : Nat), k ≠ 0 → ¬ k % 2 = 1 → T.put n r (k / 2 - 1) x = some r' →
        ∀ j, (T.node v l r').get j = if j = k then x else (T.node v l r).get j := by
      intro v l r r' k hk hm hl j
      have := ih _ _ _ hl (j / 2 - 1)
      simp only [T.get_node]
      by_cases hj : j = 0
      · have : ¬ (0 = k) := fun e => hk e.symm
        simp [hj, this]
      · by_cases hjm : j % 2 = 1
        · have hne : ¬ j = k := by omega
          simp [hj, hjm, hne]
        · simp only [hj, hjm, if_false, this]
          have : (j / 2 - 1 = k / 2 - 1) ↔ j = k := by omega
          simp [this]
    have nils : ∀ j, (T.nil : T α).get j = (T.node none .nil .nil : T α).get j := by
      intro j; simp only [T.get_node, T.get_nil]; split <;> (try split) <;> rfl
    intro t t' k h j
    cases t with
    | nil =>
      rw [nils]
      simp only [T.put_nil] at h
      split at h
      · rename_i hk; have hk := Nat.eq_of_beq_eq_true hk; subst hk; cases h; simp only [T.get_node, T.get_nil]; split <;> simp_all
      · rename_i hk
        have hk : k ≠ 0 := fun e => by subst e; simp at hk
        split at h
        · rename_i hm
          have hm := Nat.eq_of_beq_eq_true hm
          split at h
          · rename_i l hl; cases h; exact left _ _ _ _ k hk hm hl j
          · cases h
        · rename_i hm
          have hm : ¬ k % 2 = 1 := fun e => by rw [e] at hm; simp at hm
          split at h
          · rename_i l hl; cases h; exact right _ _ _ _ k hk hm hl j
          · cases h
    | node v l r =>
      simp only [T.put_node] at h
      split at h
      · rename_i hk; have hk := Nat.eq_of_beq_eq_true hk; subst hk; cases h; simp only [T.get_node]; split <;> simp_all
      · rename_i hk
        have hk : k ≠ 0 := fun e => by subst e; simp at hk
        split at h
        · rename_i hm
          have hm := Nat.eq_of_beq_eq_true hm
          split at h
          · rename_i l hl; cases h; exact left _ _ _ _ k hk hm hl j
          · cases h
        · rename_i hm
          have hm : ¬ k % 2 = 1 := fun e => by rw [e] at hm; simp at hm
          split at h
          · rename_i l hl; cases h; exact right _ _ _ _ k hk hm hl j
          · cases h

/- Abstract values. 'sym n' is the n-th value of an environment: it is carried along. -/
inductive Seg where
  | lit (s : List UInt8)
  | var (n : Nat)

inductive AV where
  | bool (b : Bool)
  | int (k : IntKind) (n : Int)
  | str (s : List UInt8)
  | ptr (a : Option (Nat × Nat))
  | slice (a : Option (Nat × Nat)) (len cap : Nat) (op : Bool)
  | map (r : Option Nat)
  | func (fn : Fn) (first captured : List AV)
  | nilFunc
  | iface (t : TypeId) (v : AV)
  | nilIface
  | agg (cells : List AV)
  | tuple (vs : List AV)
  | sym (n : Nat)
  | scat (l : List Seg)
  | lin (k : IntKind) (c m : Int) (n : Nat)

/- What names of values stand for, and how many cells a type's values have. -/
structure Env where
  val : Nat → Option Value
  str : Nat → Option (List UInt8)
  int : Nat → Option Int
  sz : TypeId → Nat

/- A text in parts. -/
def segs (env : Env) : List Seg → Option (List UInt8)
  | [] => some []
  | .lit s :: l => match segs env l with
    | some r => some (s ++ r)
    | none => none
  | .var n :: l => match env.str n, segs env l with
    | some s, some r => some (s ++ r)
    | _, _ => none

structure Place where
  block : Nat
  off : Nat
  extra : Nat

abbrev Ren := Nat → Option Place

mutual
def AV.toV (env : Env) (ρ : Ren) : AV → Option Value
  | .bool b => some (.bool b)
  | .int k n => some (.int k n)
  | .str s => some (.string ⟨s.toArray⟩)
  | .ptr none => some (.pointer none)
  | .ptr (some (i, o)) => match ρ i with
    | some p => some (.pointer (some ⟨p.block, p.off + o, none⟩))
    | none => none
  | .slice none len cap op => if op then none else some (.slice none len cap)
  | .slice (some (i, o)) len cap op => match ρ i with
    | some p => some (.slice (some ⟨p.block, p.off + o, none⟩) len (if op then cap + p.extra else cap))
    | none => none
  | .map none => some (.map none)
  | .map (some i) => match ρ i with
    | some p => some (.map (some p.block))
    | none => none
  | .func fn first captured => match toVs env ρ first, toVs env ρ captured with
    | some a, some b => some (.func fn a.toArray b.toArray)
    | _, _ => none
  | .nilFunc => some .nilFunc
  | .iface t v => match AV.toV env ρ v with
    | some x => some (.iface t x)
    | none => none
  | .nilIface => some .nilIface
  | .agg l => match toVs env ρ l with
    | some a => some (.agg a.toArray)
    | none => none
  | .tuple l => match toVs env ρ l with
    | some a => some (.tuple a.toArray)
    | none => none
  | .sym n => match env.val n with
    | some x => if x.oneCell' then some x else none
    | none => none
  | .scat l => match segs env l with
    | some s => some (.string ⟨s.toArray⟩)
    | none => none
  | .lin k c m n => match env.int n with
    | some x => some (.int k (c + m * x))
    | none => none
def toVs (env : Env) (ρ : Ren) : List AV → Option (List Value)
  | [] => some []
  | v :: l => match AV.toV env ρ v, toVs env ρ l with
    | some x, some xs => some (x :: xs)
    | _, _ => none
end

def Ren.Le (ρ ρ' : Ren) : Prop := ∀ i p, ρ i = some p → ρ' i = some p

theorem Ren.Le.refl (ρ : Ren) : Ren.Le ρ ρ := fun _ _ h => h
theorem Ren.Le.trans {ρ ρ' ρ'' : Ren} (h : Ren.Le ρ ρ') (h' : Ren.Le ρ' ρ'') : Ren.Le ρ ρ'' := fun i p hp => h' i p (h i p hp)

section
variable {env : Env} {ρ ρ' : Ren}

mutual
theorem AV.toV_mono (h : Ren.Le ρ ρ') : ∀ (v : AV) (x : Value), v.toV env ρ = some x → v.toV env ρ' = some x
  | .bool _, _, e => by simpa [AV.toV] using e
  | .int _ _, _, e => by simpa [AV.toV] using e
  | .str _, _, e => by simpa [AV.toV] using e
  | .ptr none, _, e => by simpa [AV.toV] using e
  | .ptr (some (i, o)), _, e => by
    simp only [AV.toV] at e ⊢
    split at e
    · rename_i p hp; rw [h i p hp]; exact e
    · cases e
  | .slice none _ _ _, _, e => by simpa [AV.toV] using e
  | .slice (some (i, o)) _ _ _, _, e => by
    simp only [AV.toV] at e ⊢
    split at e
    · rename_i p hp; rw [h i p hp]; exact e
    · cases e
  | .map none, _, e => by simpa [AV.toV] using e
  | .map (some i), _, e => by
    simp only [AV.toV] at e ⊢
    split at e
    · rename_i p hp; rw [h i p hp]; exact e
    · cases e
  | .func _ a b, _, e => by
    simp only [AV.toV] at e ⊢
    split at e
    · rename_i xa xb ha hb; rw [toVs_mono h a _ ha, toVs_mono h b _ hb]; exact e
    · cases e
  | .nilFunc, _, e => by simpa [AV.toV] using e
  | .iface _ v, _, e => by
    simp only [AV.toV] at e ⊢
    split at e
    · rename_i x hx; rw [AV.toV_mono h v _ hx]; exact e
    · cases e
  | .nilIface, _, e => by simpa [AV.toV] using e
  | .agg l, _, e => by
    simp only [AV.toV] at e ⊢
    split at e
    · rename_i x hx; rw [toVs_mono h l _ hx]; exact e
    · cases e
  | .tuple l, _, e => by
    simp only [AV.toV] at e ⊢
    split at e
    · rename_i x hx; rw [toVs_mono h l _ hx]; exact e
    · cases e
  | .sym _, _, e => by simpa [AV.toV] using e
  | .scat _, _, e => by simpa [AV.toV] using e
  | .lin _ _ _ _, _, e => by simpa [AV.toV] using e
theorem toVs_mono (h : Ren.Le ρ ρ') : ∀ (l : List AV) (xs : List Value), toVs env ρ l = some xs → toVs env ρ' l = some xs
  | [], _, e => by simpa [toVs] using e
  | v :: l, _, e => by
    simp only [toVs] at e ⊢
    split at e
    · rename_i x xs hx hxs; rw [AV.toV_mono h v _ hx, toVs_mono h l _ hxs]; exact e
    · cases e
end
end
end Go.Rx
