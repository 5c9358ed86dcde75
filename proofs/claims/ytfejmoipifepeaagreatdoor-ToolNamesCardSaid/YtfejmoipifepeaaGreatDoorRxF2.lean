/- The executor is right: operations that turn memory. -/
import Derived.Test.YtfejmoipifepeaaGreatDoorRxF1
import Derived.Laws.CopyRow
set_option linter.unusedSimpArgs false
set_option linter.unusedVariables false
set_option linter.unusedSectionVars false
namespace Go.Rx

def RunsTo (r : Result Next) (V : Value) (w' : World) : Prop := r = .ok (.value V) w' ∨ (r = .ok .skip w' ∧ V = undef)

def Turns (P : Program) (env : Env) (ρ : Ren) (f : Operand → Value) (o : Oper) (h : HF) (n : Nat) (v : AV) (h' : HF) (n' : Nat) (w : World) : Prop :=
  ∃ V ρ' w', RunsTo ((execOp f o).run P w) V w' ∧ v.toV env ρ' = some V ∧ Rep env ρ' h' w' ∧ Grows ρ h n w ρ' h' n' w'

section
variable {P : Program} {env : Env} {ρ : Ren} {ev : Ev} {f : Operand → Value} {o : Oper} {t t' : T AObj} {w : World} {n n' : Nat}

theorem oneA_ok {v : AV} (h : oneA v = true) {V : Value} (hv : v.toV env ρ = some V) : V.oneCell' = true := by
  cases v with
  | agg l => simp [oneA] at h
  | tuple l => simp [oneA] at h
  | bool b => rw [toV_bool hv]; rfl
  | int k n => rw [toV_int hv]; rfl
  | str s => rw [toV_str hv]; rfl
  | nilFunc => simp [AV.toV] at hv; subst hv; rfl
  | nilIface => simp [AV.toV] at hv; subst hv; rfl
  | ptr a => have := head_ptr hv; cases V <;> simp [eqHead] at this <;> rfl
  | slice a l c op => have := head_slice hv; cases V <;> simp [eqHead] at this <;> rfl
  | map a => have := head_map hv; cases V <;> simp [eqHead] at this <;> rfl
  | func a b c => have := head_func hv; cases V <;> simp [eqHead] at this <;> rfl
  | iface t v => have := head_iface hv; cases V <;> simp [eqHead] at this <;> rfl
  | scat l => simp only [AV.toV] at hv; split at hv <;> cases hv; rfl
  | lin k c m n => simp only [AV.toV] at hv; split at hv <;> cases hv; rfl
  | sym n =>
    simp only [AV.toV] at hv
    split at hv
    · split at hv
      · rename_i h1; cases hv; exact h1
      · cases hv
    · cases hv

theorem ones_ok : ∀ {vs : List AV} {xs : List Value}, vs.all oneA = true → toVs env ρ vs = some xs → ∀ x ∈ xs, x.oneCell' = true
  | [], xs, _, h, x, hx => by simp [toVs] at h; subst h; cases hx
  | v :: vs, xs, ha, h, x, hx => by
    obtain ⟨y, ys, hy, hys, rfl⟩ := toVs_cons h
    simp at ha
    rcases List.mem_cons.1 hx with rfl | hx
    · exact oneA_ok ha.1 hy
    · exact ones_ok (by simpa using ha.2) hys x hx

theorem run_storeCells_free (P : Program) (g o : Nat) (t : TypeId) (fz : Nat × Nat) : ∀ (vs : List Value) (i : Nat) (cur : Array Value) (w : World), w.heap[g]? = some (.cells cur t fz) →
    (fz.1 = fz.2 ∨ cur.size ≤ fz.1) → o + i + vs.length ≤ cur.size → (∀ v ∈ vs, v.oneCell' = true) →
    (storeCells ⟨g, o, none⟩ vs i).run P w = .ok () (w.setRow g (cur.toList.take (o + i) ++ vs ++ cur.toList.drop (o + i + vs.length)).toArray)
  | [], i, cur, w, hg, _, _, _ => by
    simp only [storeCells, List.append_nil, List.length_nil, Nat.add_zero, List.take_append_drop, Array.toArray_toList]
    rw [setRow_self w g cur t fz hg]
    rfl
  | v :: rest, i, cur, w, hg, hfz, hl, h1 => by
    have hi : o + i < cur.size := by simp at hl; omega
    have hadd : (⟨g, o, none⟩ : Addr).add i = ⟨g, o + i, none⟩ := Addr.add_plain g o i
    have hcell : w.cell? ⟨g, o + i, none⟩ = some cur[o + i] := by simp [World.cell?, hg, hi]
    have hfro : w.frozen? ⟨g, o + i, none⟩ = false := by
      obtain ⟨lo, hi'⟩ := fz
      simp only at hfz
      simp only [World.frozen?, hg, Bool.and_eq_false_iff, decide_eq_false_iff_not]
      omega
    have hst : (store ((⟨g, o, none⟩ : Addr).add i) v).run P w = .ok () (w.setRow g (cur.setIfInBounds (o + i) v)) := by
      rw [hadd, run_store P w _ v _ (h1 v (by simp)), hcell]
      simp [hfro, setCell_eq_setRow w g (o + i) cur t fz v hg]
    have ih := run_storeCells_free P g o t fz rest (i + 1) (cur.setIfInBounds (o + i) v) (w.setRow g (cur.setIfInBounds (o + i) v)) (setRow_heap w g cur _ t _ hg) (by simpa using hfz) (by simp at hl ⊢; omega) (fun x hx => h1 x (by simp [hx]))
    simp only [storeCells, Sem.run_bind, hst, Result.andThen_ok, ih, setRow_setRow]
    congr 3
    have e := list_seg_step cur.toList (o + i) v rest (by simp at hl ⊢; omega)
    simpa [Array.toList_setIfInBounds, Nat.add_assoc] using e

theorem setRowO_ok {l l' : List (Option AV)} {off : Nat} {vs : List AV} (h : setRowO l off vs = some l') : off + vs.length ≤ l.length ∧ vs.all oneA = true ∧ l' = l.take off ++ vs.map some ++ l.drop (off + vs.length) := by
  unfold setRowO at h
  split at h
  · rename_i hb
    simp only [Bool.and_eq_true] at hb
    cases h
    exact ⟨Nat.le_of_ble_eq_true hb.1, hb.2, rfl⟩
  · cases h

/- Cells written: the row behind it stands for the new abstract row. -/
theorem crel_set {l : List (Option AV)} {c : Array Value} {p off : Nat} {vs : List AV} {xs : List Value} (hc : CRel env ρ l c p) (hx : toVs env ρ vs = some xs) (hb : off + vs.length ≤ l.length) (hs : p + l.length ≤ c.size) :
    CRel env ρ (l.take off ++ vs.map some ++ l.drop (off + vs.length)) (c.toList.take (p + off) ++ xs ++ c.toList.drop (p + off + xs.length)).toArray p := by
  have hlen := toVs_length hx
  intro i v hi
  simp only [List.getElem?_toArray]
  have e1 : min off l.length = off := by omega
  have e2 : min (p + off) c.toList.length = p + off := by simp; omega
  simp only [List.getElem?_append, List.length_append, List.length_take, List.length_map, e1, e2, List.getElem?_take, List.getElem?_drop, List.getElem?_map] at hi ⊢
  by_cases h1 : i < off
  · have h2 : i < off + vs.length := by omega
    have h3 : p + i < p + off := by omega
    have h4 : p + i < p + off + xs.length := by omega
    simp only [h1, h2, if_true] at hi
    obtain ⟨x, hx', hcx⟩ := hc i v hi
    exact ⟨x, hx', by simp only [h3, h4, if_true]; simpa using hcx⟩
  · by_cases h2 : i < off + vs.length
    · simp only [h1, h2, if_true, if_false] at hi
      have hi' : vs[i - off]? = some v := by
        cases hv : vs[i - off]? with
        | none => simp [hv] at hi
        | some u => simp [hv] at hi; rw [hi]
      obtain ⟨x, hx', hv⟩ := toVs_get hx hi'
      have h3 : ¬ p + i < p + off := by omega
      have h4 : p + i < p + off + xs.length := by omega
      have h5 : p + i - (p + off) = i - off := by omega
      exact ⟨x, hv, by simp only [h3, h4, if_true, if_false, h5]; exact hx'⟩
    · simp only [h2, if_false] at hi
      have hi' : l[i]? = some (some v) := by
        have : off + vs.length + (i - (off + vs.length)) = i := by omega
        rw [this] at hi; exact hi
      obtain ⟨x, hx', hcx⟩ := hc i v hi'
      have h4 : ¬ p + i < p + off + xs.length := by omega
      have h6 : p + off + xs.length + (p + i - (p + off + xs.length)) = p + i := by omega
      exact ⟨x, hx', by simp only [h4, if_false, h6]; simpa using hcx⟩

theorem writeA_ok (r : Rep env ρ t.get w) {id off : Nat} {vs : List AV} (h : writeA t id off vs = some t') {p : Place} (hp : ρ id = some p) {xs : List Value} (hx : toVs env ρ vs = some xs) (n : Nat) :
    ∃ w', (storeCells ⟨p.block, p.off + off, none⟩ xs).run P w = .ok () w' ∧ Rep env ρ t'.get w' ∧ Grows ρ t.get n w ρ t'.get n w' := by
  unfold writeA at h
  split at h
  · rename_i l e hg
    split at h
    · rename_i l' hl
      obtain ⟨hb, hone, rfl⟩ := setRowO_ok hl
      obtain ⟨q, x, hq, hxo, c, lo, hi, rfl, hs, hc, hf⟩ := r.obj _ _ hg
      rw [hp] at hq; cases hq
      have hlen := toVs_length hx
      have hst := run_storeCells_free P p.block (p.off + off) e (lo, hi) xs 0 c w hxo (hf rfl) (by omega) (ones_ok hone hx)
      simp only [Nat.add_zero] at hst
      refine ⟨_, hst, ?_⟩
      rw [HF.get_put h]
      refine rep_set r hg hp (setRow_heap w p.block c _ e (lo, hi) hxo) ⟨_, lo, hi, rfl, ?_, crel_set hc hx hb (by omega), fun _ => ?_⟩ (fun b hb => setRow_other w p.block b _ hb) (setRow_size w _ _) rfl rfl rfl
      · simp only [List.size_toArray, List.length_append, List.length_take, List.length_drop, Array.length_toList, List.length_map]
        omega
      · have := hf rfl
        simp only [List.size_toArray, List.length_append, List.length_take, List.length_drop, Array.length_toList]
        omega
    · cases h
  · cases h

theorem wStore_ok (r : Rep env ρ t.get w) {ty : TypeId} {x y : Operand} {v : AV} (h : wStore P ev t n ty x y = some (v, t', n')) (hx : ∀ v, ev x = some v → v.toV env ρ = some (f x)) (hy : ∀ v, ev y = some v → v.toV env ρ = some (f y))
    (ho : o.op = .store ty x y) : Turns P env ρ f o t.get n v t'.get n' w := by
  unfold wStore at h
  split at h
  · rename_i id off u hex hey
    split at h
    · rename_i i hi
      split at h
      · rename_i hsz
        have hsz := Nat.eq_of_beq_eq_true hsz
        split at h
        · rename_i t₁ hw
          cases h
          obtain ⟨p, hp, hX⟩ := toV_ptr (hx _ hex)
          have hcu := cellsA_ok (hy _ hey)
          have hlu := toVs_length hcu
          obtain ⟨w', hr, hrep, hg⟩ := writeA_ok (P := P) r hw hp hcu n
          refine ⟨undef, ρ, w', .inr ⟨?_, rfl⟩, by simp [AV.toV, toVs, undef], hrep, hg⟩
          have hne : ¬ (f y).cells.size ≠ i.size := by simp at hlu ⊢; omega
          simp [execOp, ho, Instr.storeAt, hX, Instr.sureAddr, storeVar, run_sizeOf hi, hne, hr]
        · cases h
      · cases h
    · cases h
  · cases h

end
end Go.Rx
