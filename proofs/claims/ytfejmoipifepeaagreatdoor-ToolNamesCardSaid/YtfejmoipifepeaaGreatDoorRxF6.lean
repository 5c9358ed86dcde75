/- The executor is right: copy; all operations that turn memory; library functions without a text; what is called. -/
import Derived.Test.YtfejmoipifepeaaGreatDoorRxF5
set_option linter.unusedSimpArgs false
set_option linter.unusedVariables false
set_option linter.unusedSectionVars false
namespace Go.Rx
open Go.Builtin (lenOf firstCells)
section
variable {P : Program} {env : Env} {ρ : Ren} {ev : Ev} {f : Operand → Value} {o : Oper} {t t' : T AObj} {w : World} {n n' : Nat}

theorem wCopy_ok (r : Rep env ρ t.get w) {c : Call} {v : AV} (hc : c.callee = .builtin .copy) (h : wCopy P ev t n c.argTypes c.args = some (v, t', n'))
    (hx : ∀ x ∈ c.args.toList, ∀ v, ev x = some v → v.toV env ρ = some (f x)) (ho : o.op = .call c) : Turns P env ρ f o t.get n v t'.get n' w := by
  unfold wCopy at h
  split at h
  · rename_i dt x y ht ha
    have hargs : c.args.map f = #[f x, f y] := by apply Array.ext'; simp [ha]
    have fin : ∀ {V w'}, (∀ ty, (Builtin.copy_ c.argTypes ty #[f x, f y]).run P w = .ok V w') → (execOp f o).run P w = .ok (.value V) w' := by
      intro V w' key
      simp [execOp, ho, resolve, hc, invoke, builtin, hargs, key]
    split at h
    · rename_i elem base dLen cp op u hst he hu
      have hX := hx x (by simp [ha]) _ he
      have hU := hx y (by simp [ha]) _ hu
      split at h
      · cases h
      · rename_i i hi
        split at h
        · cases h
        · rename_i k cs hap
          obtain ⟨xs, hxs, hlx, src⟩ := appendedA_ok r hap hi (xt := none) (fun ty e => by cases e) hU
          cases src with
          | zeros ty kd kk Z hx2 => cases hx2
          | plain hx2 hl hf =>
            have hm : Nat.min k dLen ≤ k := Nat.min_le_left _ _
            have hfc := hf _ hm
            split at h
            · cases h
              obtain ⟨_, hX'⟩ := toV_slice_none hX
              refine ⟨.int .i64 (Nat.min k dLen), ρ, w, .inl (fin fun ty => ?_), rfl, r, .refl _ _ _ _⟩
              rw [hX']
              simp [Builtin.copy_, ht, run_underlying hst, hl, run_sizeOf hi, hfc, goInt]
            · rename_i id off
              obtain ⟨p, hp, hX'⟩ := toV_slice hX
              split at h
              · rename_i t₁ hw
                cases h
                obtain ⟨w', hr, hrep, hg⟩ := writeA_ok (P := P) r hw hp (toVs_take _ hxs) n
                refine ⟨.int .i64 (Nat.min k dLen), ρ, w', .inl (fin fun ty => ?_), rfl, hrep, hg⟩
                rw [hX']
                simp [Builtin.copy_, ht, run_underlying hst, hl, run_sizeOf hi, hfc, hr, goInt]
              · cases h
    · cases h
  · cases h

/- Types of a second argument: they are there. -/
def typed (P : Program) : Op → Prop
  | .call c => ∀ ty, c.argTypes[1]? = some ty → ∃ d, P.underlying ty = some d
  | .convert src _ _ => ∃ d, P.underlying src = some d
  | _ => True

theorem evalW_ok (hE : SzOk P env) (r : Rep env ρ t.get w) {v : AV} (h : evalW P ev t n o.op = some (v, t', n')) (hev : EvOk env ρ ev f o.op.operands) (hty : typed P o.op) (hfresh : n < n' → ρ n = none) :
    Turns P env ρ f o t.get n v t'.get n' w := by
  generalize ho : o.op = op at *
  cases op <;> simp only [evalW] at h <;> first
    | (cases h; done)
    | skip
  case store ty x y => exact wStore_ok r h (hev x (by simp [Op.operands])) (hev y (by simp [Op.operands])) ho
  case mapUpdate mt x ix y => exact wMap_ok r h (hev x (by simp [Op.operands])) (hev ix (by simp [Op.operands])) (hev y (by simp [Op.operands])) ho
  case next x b => exact wNext_ok r h (hev x (by simp [Op.operands])) ho
  case convert src dst x => exact wSame_ok r h (hev x (by simp [Op.operands])) ho
  case call c =>
    have hargs : ∀ x ∈ c.args.toList, ∀ v, ev x = some v → v.toV env ρ = some (f x) := fun x hx => hev x (by simp only [Op.operands, Call.operands, Array.mem_append]; exact .inr (by simpa using hx))
    split at h
    · rename_i hc; exact wAppend_ok hE r hc h hty hfresh hargs ho
    · rename_i hc; exact wCopy_ok r hc h hargs ho
    · rename_i hc; exact wDelete_ok r hc h hargs ho
    · cases h

/- A call: what is entered. -/
theorem calleeA_ok {c : Call} {g : Nat} {args : List AV} (h : calleeA P ev c = some (g, args)) (hev : EvOk env ρ ev f (.call c : Op).operands) (ho : o.op = .call c) :
    ∃ vals, toVs env ρ args = some vals ∧ ∀ w, (execOp f o).run P w = (callFunc g vals.toArray).run P w := by
  have hargs : ∀ x ∈ c.args.toList, ∀ v, ev x = some v → v.toV env ρ = some (f x) := fun x hx => hev x (by simp only [Op.operands, Call.operands, Array.mem_append]; exact .inr (by simpa using hx))
  unfold calleeA at h
  split at h
  · cases h
  · rename_i as has
    have hvs := evs_ok hargs has
    split at h
    · rename_i fo hc
      split at h
      · rename_i g' first captured he
        cases h
        have hF := hev fo (by simp [Op.operands, Call.operands, hc]) _ he
        simp only [AV.toV] at hF
        split at hF
        · rename_i a b ha hb
          have hF := (Option.some.inj hF).symm
          refine ⟨_, toVs_append (toVs_append ha hvs) hb, fun w => ?_⟩
          simp only [execOp, ho, resolve, hc, hF, Deferred.ofValue]
          simp only [Sem.run_bind, Sem.run_pure, Result.andThen_ok, invoke]
          congr 2
          apply Array.ext'
          simp
        · cases hF
      · cases h
    · rename_i recv name hc
      split at h
      · rename_i ty v he
        have hR := hev recv (by simp [Op.operands, Call.operands, hc]) _ he
        simp only [AV.toV] at hR
        split at hR
        · rename_i V hV
          have hR := (Option.some.inj hR).symm
          unfold methodA at h
          split at h
          · rename_i inf hinf
            split at h
            · rename_i m hm
              have ht : ∀ w, (typeInfo ty).run P w = .ok inf w := fun w => by simp [typeInfo, hinf]
              have body : ∀ (g : Nat) (pr : Bool), m.path.toList = [] → m.func = some (g, pr) → (∃ d, P.underlying ty = some d ∧ (((∃ e, d = .pointer e) ∧ pr = true) ∨ ((∀ e, d ≠ .pointer e) ∧ pr = false))) →
                  ∃ vals, toVs env ρ (v :: as) = some vals ∧ ∀ w, (execOp f o).run P w = (callFunc g vals.toArray).run P w := by
                intro g pr hpath hfunc ⟨d, hd, hcase⟩
                refine ⟨_, toVs_cons_mk hV hvs, fun w => ?_⟩
                have hrec : ∀ wn, (receiverAt ty (.val V) pr wn).run P w = .ok V w := by
                  intro wn
                  unfold receiverAt
                  rcases hcase with ⟨⟨e, rfl⟩, rfl⟩ | ⟨hne, rfl⟩
                  · simp [run_underlying hd, Place.get]
                  · simp only [Sem.run_bind, run_underlying hd, Result.andThen_ok]
                    cases d <;> first
                      | exact absurd rfl (hne _)
                      | simp [Place.get]
                have hmeth : (method (P.types.size + Made.depth) ty V name).run P w = .ok (g, V) w := by
                  have hd0 : 0 < Made.depth := by decide
                  have hdp : ∃ k, P.types.size + Made.depth = k + 1 := ⟨P.types.size + Made.depth - 1, by omega⟩
                  obtain ⟨k, hk⟩ := hdp
                  rw [hk]
                  unfold method
                  simp only [Sem.run_bind, ht, Result.andThen_ok, hm, hpath, follow, Sem.run_pure, hfunc, hrec]
                have hget : (#[Value.iface ty V] ++ c.args.map f)[0]? = some (.iface ty V) := by rw [Array.getElem?_append_left (by simp)]; rfl
                have hex : (#[Value.iface ty V] ++ c.args.map f).extract 1 (#[Value.iface ty V] ++ c.args.map f).size = c.args.map f := by
                  apply Array.ext'; simp
                  exact List.take_of_length_le (by simp)
                have hinv : (invoke (.fn (.method name) #[]) (#[.iface ty V] ++ c.args.map f)).run P w = (callFunc g (#[V] ++ c.args.map f)).run P w := by
                  simp only [invoke]
                  rw [hget, hex]
                  simp only [callMethod, Sem.run_bind, run_program, Result.andThen_ok, hmeth]
                have hvl : (V :: List.map f c.args.toList).toArray = #[V] ++ c.args.map f := by apply Array.ext'; simp
                rw [hvl]
                simp only [execOp, ho, resolve, hc, hR]
                simp only [Sem.run_bind, Sem.run_pure, Result.andThen_ok]
                exact hinv
              split at h
              · rename_i g' e hpath hfunc hud
                cases h
                exact body g true hpath hfunc ⟨_, hud, .inl ⟨⟨_, rfl⟩, rfl⟩⟩
              · cases h
              · rename_i g' d hne hpath hfunc hud
                cases h
                exact body g false hpath hfunc ⟨d, hud, .inr ⟨fun e he => hne e he, rfl⟩⟩
              · cases h
            · cases h
          · cases h
        · cases hR
      · cases h
    · cases h
end
end Go.Rx
