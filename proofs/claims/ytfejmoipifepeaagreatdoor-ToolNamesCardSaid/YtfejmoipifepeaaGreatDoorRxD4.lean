/- The executor is right: all operations that look at no memory. -/
import Derived.Test.YtfejmoipifepeaaGreatDoorRxD3
set_option linter.unusedSimpArgs false
set_option linter.unusedVariables false
set_option linter.unusedSectionVars false
namespace Go.Rx
section
variable {P : Program} {env : Env} {ρ : Ren} {ev : Ev} {f : Operand → Value} {o : Oper}

theorem opt_map_none {α β : Type} {x : Option α} {g : α → β} (h : x = none) : x.map g = none := by rw [h]; rfl

theorem toV_slice {a : Nat × Nat} {l c : Nat} {op : Bool} {V : Value} (h : (AV.slice (some a) l c op).toV env ρ = some V) :
    ∃ p, ρ a.1 = some p ∧ V = .slice (some ⟨p.block, p.off + a.2, none⟩) l (if op then c + p.extra else c) := by
  obtain ⟨i, o⟩ := a
  simp only [AV.toV] at h
  split at h
  · rename_i p hp; cases h; exact ⟨p, hp, rfl⟩
  · cases h

theorem toV_slice_mk {i o l c : Nat} {op : Bool} {p : Place} (hp : ρ i = some p) :
    (AV.slice (some (i, o)) l c op).toV env ρ = some (.slice (some ⟨p.block, p.off + o, none⟩) l (if op then c + p.extra else c)) := by
  simp [AV.toV, hp]

theorem toV_ptr {a : Nat × Nat} {V : Value} (h : (AV.ptr (some a)).toV env ρ = some V) : ∃ p, ρ a.1 = some p ∧ V = .pointer (some ⟨p.block, p.off + a.2, none⟩) := by
  obtain ⟨i, o⟩ := a
  simp only [AV.toV] at h
  split at h
  · rename_i p hp; cases h; exact ⟨p, hp, rfl⟩
  · cases h

theorem toV_ptr_mk {i o : Nat} {p : Place} (hp : ρ i = some p) : (AV.ptr (some (i, o))).toV env ρ = some (.pointer (some ⟨p.block, p.off + o, none⟩)) := by
  simp [AV.toV, hp]

theorem sliceA_ok {t : TypeId} {x v : AV} {lo hi mx : Option Operand} (h : sliceA P t x ev lo hi mx = some v)
    (hl : ∀ x, lo = some x → ∀ v, ev x = some v → v.toV env ρ = some (f x)) (hh : ∀ x, hi = some x → ∀ v, ev x = some v → v.toV env ρ = some (f x))
    (hm : ∀ x, mx = some x → ∀ v, ev x = some v → v.toV env ρ = some (f x)) {X : Value} (hx : x.toV env ρ = some X) :
    ∃ V, v.toV env ρ = some V ∧ ∀ w, (Instr.sliceAt t X (lo.map f) (hi.map f) (mx.map f)).run P w = .ok V w := by
  unfold sliceA at h
  split at h
  · rename_i s hu
    split at h
    · cases h
    · rename_i hmx
      have hmx : mx = none := by simpa using hmx
      subst hmx
      simp only [AV.toV] at hx; cases hx
      split at h
      · rename_i l hh' m hb
        cases h
        refine ⟨_, rfl, fun w => ?_⟩
        obtain ⟨hr, _, _, _⟩ := boundsA_ok (P := P) (cap' := s.length) hb hl hh (fun x e => by cases e) (Nat.le_refl _) false w
        have hsz : (ByteArray.mk s.toArray).size = s.length := by simp [ByteArray.size]
        have he : (ByteArray.mk s.toArray).extract l hh' = ⟨((s.take hh').drop l).toArray⟩ := by
          apply ByteArray.ext; simp [List.drop_take]
        simp only [Instr.sliceAt, Sem.run_bind, run_underlying hu, Result.andThen_ok, Instr.slice, Option.map_none, Option.isSome_none, Bool.false_eq_true, if_false, hsz]
        simp only [Option.map_none, Option.isSome_none, Bool.false_eq_true, if_false] at hr
        simp only [Sem.run_pure, Result.andThen_ok, hr, he]
      · cases h
  · rename_i elem a len cap op hu
    split at h
    · cases h
    · rename_i i hi'
      split at h
      · cases h
      · rename_i l h' m hb
        have hue : P.underlying t = some (.slice (P.elem t)) ∧ P.elem t = elem := by simp [Program.elem, hu]
        have hes : ∀ w, (sizeOf (P.elem t)).run P w = .ok i.size w := fun w => by rw [hue.2]; exact run_sizeOf hi' w
        cases a with
        | none =>
          simp only [AV.toV] at hx
          split at hx
          · cases hx
          · cases hx
            cases h
            refine ⟨_, rfl, fun w => ?_⟩
            obtain ⟨hr, _, _, hmc⟩ := boundsA_ok (P := P) (cap' := cap) hb hl hh hm (Nat.le_refl _) true w
            rw [run_sliceAt_slice w t _ _ _ _ hue.1, run_slice_any w t none len cap hue.1, hr]
            simp only [Result.andThen_ok, hes, sliced]
            cases mx with
            | some x => simp
            | none => simp [hmc rfl]
        | some a =>
          obtain ⟨id, off⟩ := a
          obtain ⟨p, hp, rfl⟩ := toV_slice hx
          have hc : cap ≤ (if op then cap + p.extra else cap) := by split <;> omega
          have key : ∀ w, (Instr.sliceAt t (.slice (some ⟨p.block, p.off + off, none⟩) len (if op then cap + p.extra else cap)) (lo.map f) (hi.map f) (mx.map f)).run P w =
              .ok (sliced (some ⟨p.block, p.off + off, none⟩) l h' (if mx.isSome then m else (if op then cap + p.extra else cap)) i.size) w := fun w => by
            obtain ⟨hr, _, _, _⟩ := boundsA_ok (P := P) hb hl hh hm hc true w
            rw [run_sliceAt_slice w t _ _ _ _ hue.1, run_slice_any w t _ len _ hue.1, hr]
            simp only [Result.andThen_ok, hes]
          obtain ⟨_, hlh, hmcap, hmc⟩ := boundsA_ok (P := P) hb hl hh hm hc true default
          simp only at h
          split at h
          · rename_i hmo
            -- a cut whose capacity is known
            have hcap : (if mx.isSome then m else (if op then cap + p.extra else cap)) = m := by
              cases mx with
              | some x => simp
              | none =>
                have : op = false := by simpa using hmo
                simp [this, hmc rfl]
            rw [hcap] at key
            split at h
            · rename_i hml
              have hml : m = l := by simpa using hml
              cases h
              exact ⟨_, toV_slice_mk hp, fun w => by rw [key w]; simp [sliced, hml]⟩
            · rename_i hml
              have hml : ¬ m = l := by simpa using hml
              cases h
              exact ⟨_, toV_slice_mk hp, fun w => by rw [key w]; simp [sliced, hml, Addr.add_plain, Nat.add_assoc]⟩
          · rename_i hmo
            have hmx : mx = none := by
              cases mx with
              | none => rfl
              | some x => simp at hmo
            have hop : op = true := by
              cases op with
              | true => rfl
              | false => simp at hmo
            subst hmx; subst hop
            have hmc := hmc rfl
            subst hmc
            simp only [Option.isSome_none, Bool.false_eq_true, if_false, if_true] at key ⊢
            split at h
            · cases h
            · rename_i hble
              have hble : h' ≤ m := by
                have : Nat.ble h' m = true := by simpa using hble
                exact Nat.le_of_ble_eq_true this
              split at h
              · rename_i hml
                have hml : m = l := by simpa using hml
                split at h
                · rename_i hl0
                  have hl0 : l = 0 := by simpa using hl0
                  subst hl0
                  cases h
                  subst hml
                  refine ⟨_, toV_slice_mk hp, fun w => ?_⟩
                  have hb0 : h' - 0 = 0 := by omega
                  rw [key w]
                  simp [sliced, hb0, Addr.add_plain]
                · cases h
              · rename_i hml
                have hml : ¬ m = l := by simpa using hml
                cases h
                refine ⟨_, toV_slice_mk hp, fun w => ?_⟩
                rw [key w]
                have h1 : ¬ (m + p.extra = l) := by omega
                have h2 : m + p.extra - l = m - l + p.extra := by omega
                simp [sliced, h1, h2, Addr.add_plain, Nat.add_assoc]
  · rename_i n elem id off hu
    obtain ⟨p, hp, rfl⟩ := toV_ptr hx
    split at h
    · cases h
    · rename_i i hi'
      split at h
      · cases h
      · rename_i l h' m hb
        have hmn : (mx = none → m = n) := (boundsA_ok (P := P) hb hl hh hm (Nat.le_refl _) false default).2.2.2
        have hcap : (if mx.isSome then m else n) = m := by
          cases mx with
          | some x => simp
          | none => simp [hmn rfl]
        have key : ∀ w, (Instr.sliceAt t (.pointer (some ⟨p.block, p.off + off, none⟩)) (lo.map f) (hi.map f) (mx.map f)).run P w =
            .ok (.slice (some (if m = l then ⟨p.block, p.off + off, none⟩ else (⟨p.block, p.off + off, none⟩ : Addr).add (l * i.size))) (h' - l) (m - l)) w := fun w => by
          obtain ⟨hr, _, _, _⟩ := boundsA_ok (P := P) hb hl hh hm (Nat.le_refl _) false w
          rw [hcap] at hr
          simp only [Instr.sliceAt, Sem.run_bind, run_underlying hu, Result.andThen_ok, Instr.sureAddr, Sem.run_pure, hr, run_sizeOf hi']
        split at h
        · rename_i hml
          have hml : m = l := by simpa using hml
          cases h
          exact ⟨_, toV_slice_mk hp, fun w => by rw [key w]; simp [hml]⟩
        · rename_i hml
          have hml : ¬ m = l := by simpa using hml
          cases h
          exact ⟨_, toV_slice_mk hp, fun w => by rw [key w]; simp [hml, Addr.add_plain, Nat.add_assoc]⟩
  · cases h
end
end Go.Rx
