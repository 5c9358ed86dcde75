/- The executor is right: literals; all operations that look at no memory. -/
import Derived.Test.YtfejmoipifepeaaGreatDoorRxD4
set_option linter.unusedSimpArgs false
set_option linter.unusedVariables false
set_option linter.unusedSectionVars false
namespace Go.Rx
section
variable {P : Program} {env : Env} {ρ : Ren} {ev : Ev} {f : Operand → Value} {o : Oper}

theorem foldl_fill (off : Nat) : ∀ (l : List Value) (k : Nat) (cs : Array Value), off + k + l.length ≤ cs.size →
    ((l.zipIdx k).foldl (fun (cs : Array Value) (p : Value × Nat) => cs.setIfInBounds (off + p.2) p.1) cs).toList = cs.toList.take (off + k) ++ l ++ cs.toList.drop (off + k + l.length)
  | [], k, cs, _ => by simp
  | v :: l, k, cs, h => by
    simp only [List.zipIdx_cons, List.foldl_cons]
    simp only [List.length_cons] at h
    rw [foldl_fill off l (k + 1) _ (by simp; omega)]
    simp only [Array.toList_setIfInBounds, List.length_cons]
    have hl : off + k < cs.toList.length := by simp; omega
    apply List.ext_getElem?
    intro i
    simp only [List.getElem?_append, List.getElem?_take, List.getElem?_drop, List.length_append, List.length_take, List.length_set, List.getElem?_set, List.length_cons, List.getElem?_cons]
    simp only [Array.length_toList] at hl ⊢
    have e1 : min (off + (k + 1)) cs.size = off + k + 1 := by omega
    have e2 : min (off + k) cs.size = off + k := by omega
    rw [e1, e2]
    by_cases h1 : i < off + k
    · have : i < off + k + 1 := by omega
      have h3 : i < off + k + 1 + l.length := by omega
      have h4 : i < off + k + (l.length + 1) := by omega
      have h5 : i < off + (k + 1) := by omega
      have h6 : ¬ (off + k = i) := by omega
      simp [h1, this, h3, h4, h5, h6]
    · by_cases h2 : i = off + k
      · subst h2
        simp [hl]
        omega
      · have h3 : ¬ i < off + k + 1 := by omega
        by_cases h4 : i < off + k + 1 + l.length
        · have h5 : i < off + k + (l.length + 1) := by omega
          have h6 : ¬ (i - (off + k) = 0) := by omega
          have h7 : i - (off + k) - 1 = i - (off + k + 1) := by omega
          simp [h1, h3, h4, h5, h6, h7]
        · have h5 : ¬ i < off + k + (l.length + 1) := by omega
          have h6 : ¬ (off + k = off + (k + 1) + l.length + (i - (off + k + 1 + l.length))) := by omega
          have h7 : off + (k + 1) + l.length + (i - (off + k + 1 + l.length)) = off + k + (l.length + 1) + (i - (off + k + (l.length + 1))) := by omega
          simp [h4, h5, h6, h7]
          intro e; omega

theorem fill_ok {place : Nat → Option (Nat × Nat)} : ∀ {parts : List (Nat × AV)} {vals : List (Nat × Value)} {cells r : List AV} {X : List Value},
    parts.length = vals.length → (∀ (i k : Nat) (v : AV), parts[i]? = some (k, v) → ∃ V : Value, vals[i]? = some (k, V) ∧ v.toV env ρ = some V) →
    toVs env ρ cells = some X → fillA place cells parts = some r → ∃ Y, toVs env ρ r = some Y ∧ Instr.fill place X.toArray vals = some Y.toArray
  | [], [], cells, r, X, _, _, hc, h => by simp [fillA] at h; subst h; exact ⟨X, hc, by simp [Instr.fill]⟩
  | [], _ :: _, _, _, _, h, _, _, _ => by simp at h
  | _ :: _, [], _, _, _, h, _, _, _ => by simp at h
  | (i, v) :: parts, (j, V) :: vals, cells, r, X, hlen, hp, hc, h => by
    obtain ⟨V', hV, hv⟩ := hp 0 i v (by simp)
    simp at hV; obtain ⟨rfl, rfl⟩ := hV
    simp only [fillA] at h
    split at h
    · cases h
    · rename_i off size hpl
      split at h
      · rename_i hb
        simp only [Bool.and_eq_true, beq_iff_eq] at hb
        have hle := Nat.le_of_ble_eq_true hb.2
        have hcv := cellsA_ok hv
        have hlv := toVs_length hcv
        have hlc := toVs_length hc
        have hnew : toVs env ρ (cells.take off ++ cellsA v ++ cells.drop (off + size)) = some (X.take off ++ V.cells.toList ++ X.drop (off + size)) :=
          toVs_append (toVs_append (toVs_take off hc) hcv) (toVs_drop _ hc)
        obtain ⟨Y, hY, hf⟩ := fill_ok (by simpa using hlen) (fun k a u hk => by simpa using hp (k + 1) a u (by simpa using hk)) hnew h
        refine ⟨Y, hY, ?_⟩
        simp only [Array.length_toList] at hlv
        have hs : V.cells.size = size := by omega
        have hx : ¬ off + V.cells.size > X.toArray.size := by simp; omega
        have hfold : (V.cells.zipIdx.foldl (fun (cs : Array Value) (p : Value × Nat) => cs.setIfInBounds (off + p.2) p.1) X.toArray) = (X.take off ++ V.cells.toList ++ X.drop (off + size)).toArray := by
          apply Array.ext'
          rw [← Array.foldl_toList, Array.toList_zipIdx]
          have := foldl_fill off V.cells.toList 0 X.toArray (by simp; omega)
          simp only [Nat.add_zero] at this
          rw [this]
          simp [hs]
        simp only [Instr.fill, hpl]
        have hcond : (decide (V.cells.size ≠ size) || decide (off + V.cells.size > X.toArray.size)) = false := by simp [hs]; simp at hx; omega
        simp only [hcond, Bool.false_eq_true, if_false]
        rw [← hf]
        exact congrArg (fun q => Instr.fill place q vals) hfold
      · cases h

theorem evPairs_ok : ∀ {l : List (Nat × Operand)} {ps : List (Nat × AV)}, (∀ p ∈ l, ∀ v, ev p.2 = some v → v.toV env ρ = some (f p.2)) → evPairs ev l = some ps →
    ps.length = l.length ∧ ∀ (i k : Nat) (v : AV), ps[i]? = some (k, v) → ∃ V : Value, (l.map fun p => (p.1, f p.2))[i]? = some (k, V) ∧ v.toV env ρ = some V
  | [], ps, _, h => by simp [evPairs] at h; subst h; simp
  | (i, x) :: l, ps, he, h => by
    simp only [evPairs] at h
    split at h
    · rename_i v vs hv hvs
      cases h
      obtain ⟨h1, h2⟩ := evPairs_ok (fun p hp => he p (by simp [hp])) hvs
      refine ⟨by simp [h1], fun j k u hj => ?_⟩
      cases j with
      | zero => simp at hj; obtain ⟨rfl, rfl⟩ := hj; exact ⟨f x, by simp, he (i, x) (by simp) _ hv⟩
      | succ j => simpa using h2 j k u (by simpa using hj)
    · cases h

theorem placesA_ok : ∀ {fs : List Field} {l : List (Nat × Nat)}, placesA P fs = some l → fs.mapM (fun fd => (P.info? fd.type).map fun i => (fd.offset, i.size)) = some l
  | [], l, h => by simp [placesA] at h; subst h; rfl
  | fd :: fs, l, h => by
    simp only [placesA] at h
    split at h
    · rename_i i ps hi hps
      cases h
      simp [List.mapM_cons, hi, placesA_ok hps]
    · cases h

theorem buildA_ok {t : TypeId} {ps : List (Nat × AV)} {v : AV} {vals : Array (Nat × Value)} (h : buildA P t ps = some v) (hl : ps.length = vals.toList.length)
    (hp : ∀ (i k : Nat) (u : AV), ps[i]? = some (k, u) → ∃ V : Value, vals.toList[i]? = some (k, V) ∧ u.toV env ρ = some V) :
    ∃ V, v.toV env ρ = some V ∧ ∀ w, (Instr.build t vals).run P w = .ok V w := by
  unfold buildA at h
  split at h
  · cases h
  · rename_i z hz
    obtain ⟨it, Z, hit, hzz, hZ⟩ := zeroA_ok (env := env) (ρ := ρ) hz
    have hcz := cellsA_ok hZ
    split at h
    · rename_i fs hu
      split at h
      · rename_i pl hpl
        split at h
        · rename_i l hf
          cases h
          obtain ⟨Y, hY, hfill⟩ := fill_ok hl hp hcz hf
          refine ⟨.agg Y.toArray, by simp [AV.toV, hY], fun w => run_build w t vals Y.toArray ?_⟩
          simp only [Program.built, hit, hu, hzz, placesA_ok hpl]
          simpa using hfill
        · cases h
      · cases h
    · rename_i n e hu
      split at h
      · rename_i i hi
        split at h
        · rename_i l hf
          cases h
          obtain ⟨Y, hY, hfill⟩ := fill_ok hl hp hcz hf
          refine ⟨.agg Y.toArray, by simp [AV.toV, hY], fun w => run_build w t vals Y.toArray ?_⟩
          simp only [Program.built, hit, hu, hzz, hi]
          simpa using hfill
        · cases h
      · cases h
    · cases h

end
end Go.Rx
