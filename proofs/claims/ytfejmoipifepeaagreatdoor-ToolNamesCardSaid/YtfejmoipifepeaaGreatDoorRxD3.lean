/- The executor is right: constants, literals, cuts; all operations that look at no memory. -/
import Derived.Test.YtfejmoipifepeaaGreatDoorRxD2
import Derived.Laws.Tables
import Derived.Laws.Slices
set_option linter.unusedSimpArgs false
set_option linter.unusedVariables false
set_option linter.unusedSectionVars false
namespace Go.Rx
section
variable {P : Program} {env : Env} {ρ : Ren} {ev : Ev} {f : Operand → Value} {o : Oper}

theorem ofV_ofVs_ok : ∀ n, (∀ v a, ofV n v = some a → a.toV env ρ = some v) ∧ (∀ l as, ofVs n l = some as → toVs env ρ as = some l) := by
  intro n
  induction n with
  | zero =>
    refine ⟨fun v a h => by simp [ofV] at h, fun l as h => ?_⟩
    cases l with
    | nil => simp [ofVs] at h; subst h; rfl
    | cons v l => simp [ofVs] at h
  | succ n ih =>
    refine ⟨fun v a h => ?_, fun l as h => ?_⟩
    · unfold ofV at h
      split at h
      case h_1 e => cases e
      all_goals first | (cases h; done) | skip
      case h_2 e => cases h; cases e; rfl
      case h_3 e => cases h; cases e; rfl
      case h_4 e => cases h; cases e; simp [AV.toV]
      case h_5 e => cases h; cases e; rfl
      case h_6 e => cases h; cases e; simp [AV.toV]
      case h_7 e => cases h; cases e; rfl
      case h_8 e => cases h; cases e; rfl
      case h_9 e => cases h; cases e; rfl
      case h_10 e =>
        cases e
        split at h
        · rename_i x hx; cases h; simp [AV.toV, ih.1 _ _ hx]
        · cases h
      case h_11 e =>
        cases e
        split at h
        · rename_i x hx; cases h; simp [AV.toV, ih.2 _ _ hx]
        · cases h
      case h_12 e =>
        cases e
        split at h
        · rename_i x hx; cases h; simp [AV.toV, ih.2 _ _ hx]
        · cases h
    · cases l with
      | nil => simp [ofVs] at h; subst h; rfl
      | cons v l =>
        simp only [ofVs] at h
        split at h
        · rename_i x xs hx hxs; cases h
          exact toVs_cons_mk (ih.1 _ _ hx) (ih.2 _ _ hxs)
        · cases h

theorem ofV_ok {n : Nat} {v : Value} {a : AV} (h : ofV n v = some a) : a.toV env ρ = some v := (ofV_ofVs_ok n).1 v a h

theorem zeroA_ok {t : TypeId} {z : AV} (h : zeroA P t = some z) : ∃ i Z, P.info? t = some i ∧ i.zero = some Z ∧ z.toV env ρ = some Z := by
  unfold zeroA at h
  split at h
  · rename_i i hi
    split at h
    · rename_i Z hz; exact ⟨i, Z, hi, hz, ofV_ok h⟩
    · cases h
  · cases h

theorem run_zeroValue {t : TypeId} {i : TypeInfo} {Z : Value} (hi : P.info? t = some i) (hz : i.zero = some Z) (w : World) : (zeroValue t).run P w = .ok Z w := by
  simp [zeroValue, typeInfo, hi, hz]

theorem run_sizeOf {t : TypeId} {i : TypeInfo} (hi : P.info? t = some i) (w : World) : (sizeOf t).run P w = .ok i.size w := by
  simp [sizeOf, typeInfo, hi]

theorem toV_agg {v : AV} {xs : Array Value} (h : v.toV env ρ = some (.agg xs)) : ∃ l, v = .agg l := by
  cases v with
  | agg l => exact ⟨l, rfl⟩
  | bool b => simp [AV.toV] at h
  | int k n => simp [AV.toV] at h
  | str s => simp [AV.toV] at h
  | nilFunc => simp [AV.toV] at h
  | nilIface => simp [AV.toV] at h
  | ptr a => exact absurd (head_ptr h) (by simp [eqHead])
  | slice a l c op => exact absurd (head_slice h) (by simp [eqHead])
  | map a => exact absurd (head_map h) (by simp [eqHead])
  | func a b c => exact absurd (head_func h) (by simp [eqHead])
  | iface t v => exact absurd (head_iface h) (by simp [eqHead])
  | tuple l => simp only [AV.toV] at h; split at h <;> cases h
  | scat l => simp only [AV.toV] at h; split at h <;> cases h
  | lin k c m n => simp only [AV.toV] at h; split at h <;> cases h
  | sym n =>
    simp only [AV.toV] at h
    split at h
    · split at h
      · rename_i h1; cases h; simp [Value.oneCell'] at h1
      · cases h
    · cases h

theorem cellsA_ok {v : AV} {V : Value} (h : v.toV env ρ = some V) : toVs env ρ (cellsA v) = some V.cells.toList := by
  have one : ∀ v : AV, (∀ l, v ≠ .agg l) → v.toV env ρ = some V → cellsA v = [v] → toVs env ρ (cellsA v) = some V.cells.toList := by
    intro v hv h hc
    have hc' : V.cells = #[V] := by
      cases V <;> first | rfl | skip
      case agg cs => obtain ⟨l, e⟩ := toV_agg h; exact absurd e (hv l)
    rw [hc, hc']
    exact toVs_cons_mk h rfl
  cases v with
  | agg l =>
    simp only [AV.toV] at h
    split at h
    · rename_i xs hx; cases h; simpa [cellsA, Value.cells] using hx
    · cases h
  | _ => exact one _ (fun l e => by cases e) h rfl

theorem Addr.add_plain (b o n : Nat) : (⟨b, o, none⟩ : Addr).add n = ⟨b, o + n, none⟩ := by
  unfold Addr.add; split
  · rename_i e; subst e; rfl
  · rfl

/- Bounds. -/
theorem boundA_ok {y i : Nat} {x : Option AV} (h : boundA y x = some i) : ∃ k, x = some (.int k (.ofNat i)) ∧ i ≤ y := by
  unfold boundA at h
  split at h
  · split at h
    · rename_i hb; cases h; exact ⟨_, rfl, Nat.le_of_ble_eq_true hb⟩
    · cases h
  · cases h

theorem bound_run {y y' i : Nat} {x : Operand} (h : boundA y (ev x) = some i) (hx : ∀ v, ev x = some v → v.toV env ρ = some (f x)) (hy : y ≤ y') (code : BoundsCode) (w : World) :
    (Instr.sliceBound (f x) y' code).run P w = .ok i w ∧ i ≤ y := by
  obtain ⟨k, he, hi⟩ := boundA_ok h
  have := hx _ he
  simp only [AV.toV, Option.some.injEq] at this
  rw [← this]
  refine ⟨?_, hi⟩
  have := run_sliceBound (P := P) w k (Int.ofNat i) y' code (by simp) (by simp only [Int.ofNat_eq_natCast]; omega)
  simpa using this

theorem boundsA_ok {len cap cap' : Nat} {lo hi mx : Option Operand} {l h m : Nat} (hb : boundsA len cap ev lo hi mx = some (l, h, m))
    (hl : ∀ x, lo = some x → ∀ v, ev x = some v → v.toV env ρ = some (f x)) (hh : ∀ x, hi = some x → ∀ v, ev x = some v → v.toV env ρ = some (f x))
    (hm : ∀ x, mx = some x → ∀ v, ev x = some v → v.toV env ρ = some (f x)) (hc : cap ≤ cap') (isSlice : Bool) (w : World) :
    (Instr.sliceBounds isSlice len cap' (lo.map f) (hi.map f) (mx.map f)).run P w = .ok (l, h, if mx.isSome then m else cap') w ∧ l ≤ h ∧ m ≤ cap ∧ (mx = none → m = cap) := by
  unfold boundsA at hb
  cases mx with
  | some x =>
    cases hbm : boundA cap (ev x) with
    | none => simp [hbm] at hb
    | some m' =>
      simp only [hbm] at hb
      obtain ⟨rm, hmc⟩ := bound_run (P := P) hbm (hm x rfl) hc (if isSlice then .slice3Acap else .slice3Alen) w
      cases hi with
      | none => simp at hb
      | some y =>
        cases hbh : boundA m' (ev y) with
        | none => simp [hbh] at hb
        | some h' =>
          simp only [hbh] at hb
          obtain ⟨rh, hhm⟩ := bound_run (P := P) hbh (hh y rfl) (Nat.le_refl m') .slice3B w
          cases lo with
          | none =>
            simp at hb; obtain ⟨rfl, rfl, rfl⟩ := hb
            simp [Instr.sliceBounds, rm, rh, hmc]
          | some z =>
            cases hbl : boundA h' (ev z) with
            | none => simp [hbl] at hb
            | some l' =>
              simp [hbl] at hb; obtain ⟨rfl, rfl, rfl⟩ := hb
              obtain ⟨rl, hlh⟩ := bound_run (P := P) hbl (hl z rfl) (Nat.le_refl _) .slice3C w
              simp [Instr.sliceBounds, rm, rh, rl, hmc, hlh]
  | none =>
    simp only at hb
    cases hi with
    | none =>
      simp at hb
      cases lo with
      | none =>
        simp at hb; obtain ⟨rfl, rfl, rfl⟩ := hb
        simp [Instr.sliceBounds]
      | some z =>
        cases hbl : boundA len (ev z) with
        | none => simp [hbl] at hb
        | some l' =>
          simp [hbl] at hb; obtain ⟨rfl, rfl, rfl⟩ := hb
          obtain ⟨rl, hlh⟩ := bound_run (P := P) hbl (hl z rfl) (Nat.le_refl _) .sliceB w
          simp [Instr.sliceBounds, rl, hlh]
    | some y =>
      cases hbh : boundA cap (ev y) with
      | none => simp [hbh] at hb
      | some h' =>
        simp only [hbh] at hb
        obtain ⟨rh, hhm⟩ := bound_run (P := P) hbh (hh y rfl) hc (if isSlice then .sliceAcap else .sliceAlen) w
        cases lo with
        | none =>
          simp at hb; obtain ⟨rfl, rfl, rfl⟩ := hb
          simp [Instr.sliceBounds, rh]
        | some z =>
          cases hbl : boundA h' (ev z) with
          | none => simp [hbl] at hb
          | some l' =>
            simp [hbl] at hb; obtain ⟨rfl, rfl, rfl⟩ := hb
            obtain ⟨rl, hlh⟩ := bound_run (P := P) hbl (hl z rfl) (Nat.le_refl _) .sliceB w
            simp [Instr.sliceBounds, rh, rl, hlh]

end
end Go.Rx
