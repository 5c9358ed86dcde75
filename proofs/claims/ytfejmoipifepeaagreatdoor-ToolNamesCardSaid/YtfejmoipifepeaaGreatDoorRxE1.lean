/- The executor is right: operations that look at memory. -/
import Derived.Test.YtfejmoipifepeaaGreatDoorRxD6
import Derived.Laws.BytesString
set_option linter.unusedSimpArgs false
set_option linter.unusedVariables false
set_option linter.unusedSectionVars false
namespace Go.Rx

def Reads (P : Program) (env : Env) (ρ : Ren) (f : Operand → Value) (o : Oper) (v : AV) (w : World) : Prop :=
  ∃ V, v.toV env ρ = some V ∧ (execOp f o).run P w = .ok (.value V) w

section
variable {P : Program} {env : Env} {ρ : Ren} {ev : Ev} {f : Operand → Value} {o : Oper} {t : T AObj} {w : World}

theorem known_ok : ∀ {l : List (Option AV)} {vs : List AV}, known l = some vs → l = vs.map some
  | [], vs, h => by simp [known] at h; subst h; rfl
  | some v :: l, vs, h => by
    simp only [known] at h
    split at h
    · rename_i us hu; cases h; simp [known_ok hu]
    · cases h
  | none :: l, vs, h => by simp [known] at h

theorem rowOf_ok {id : Nat} {l : List (Option AV)} (h : rowOf t id = some l) : ∃ x, t.get id = some x ∧ rowO x = some l := by
  unfold rowOf at h
  split at h
  · rename_i x hg; exact ⟨x, hg, h⟩
  · cases h

/- A row's cells, from a place on, that are known: what the world has there. -/
theorem row_cells (r : Rep env ρ t.get w) {id : Nat} {l : List (Option AV)} {y : AObj} (hg : t.get id = some y) (hy : rowO y = some l) {p : Place} (hp : ρ id = some p)
    {off n : Nat} {vs : List AV} (hk : known ((l.drop off).take n) = some vs) :
    ∃ xs, toVs env ρ vs = some xs ∧ ∀ j v, xs[j]? = some v → w.cell? ((⟨p.block, p.off + off, none⟩ : Addr).add j) = some v := by
  have hl := known_ok hk
  have each : ∀ j u, vs[j]? = some u → ∃ x, u.toV env ρ = some x ∧ w.cell? ((⟨p.block, p.off + off, none⟩ : Addr).add j) = some x := by
    intro j u hj
    have h1 : ((l.drop off).take n)[j]? = some (some u) := by rw [hl]; simp [hj]
    have h2 : l[off + j]? = some (some u) := by
      rw [List.getElem?_take] at h1
      split at h1
      · simpa using h1
      · cases h1
    obtain ⟨x, hx, hc⟩ := r.cellO hg hy hp h2
    exact ⟨x, hx, by rw [Addr.add_plain]; simpa [Nat.add_assoc] using hc⟩
  have tot : ∃ xs, toVs env ρ vs = some xs := by
    clear hl hk
    induction vs with
    | nil => exact ⟨[], rfl⟩
    | cons u vs ih =>
      obtain ⟨x, hx, _⟩ := each 0 u (by simp)
      have : ∃ xs, toVs env ρ vs = some xs := by
        clear ih
        -- every one of them stands for a value
        have : ∀ u ∈ vs, ∃ x, u.toV env ρ = some x := fun u hu => by
          obtain ⟨j, hj⟩ := List.getElem?_of_mem hu
          obtain ⟨x, hx, _⟩ := each (j + 1) u (by simpa using hj)
          exact ⟨x, hx⟩
        clear each
        induction vs with
        | nil => exact ⟨[], rfl⟩
        | cons u vs ih =>
          obtain ⟨x, hx⟩ := this u (by simp)
          obtain ⟨xs, hxs⟩ := ih (fun u hu => this u (by simp [hu]))
          exact ⟨x :: xs, toVs_cons_mk hx hxs⟩
      obtain ⟨xs, hxs⟩ := this
      exact ⟨x :: xs, toVs_cons_mk hx hxs⟩
  obtain ⟨xs, hxs⟩ := tot
  refine ⟨xs, hxs, fun j v hv => ?_⟩
  have hlen := toVs_length hxs
  have hj : j < vs.length := by
    rcases Nat.lt_or_ge j xs.length with h | h
    · omega
    · rw [List.getElem?_eq_none h] at hv; cases hv
  obtain ⟨x, hx, hc⟩ := each j _ (List.getElem?_eq_getElem hj)
  obtain ⟨y, hy, hyv⟩ := toVs_get hxs (List.getElem?_eq_getElem hj)
  rw [hx] at hyv; cases hyv
  rw [hy] at hv; cases hv
  exact hc

theorem loadA_ok (r : Rep env ρ t.get w) {ty : TypeId} {id off : Nat} {v : AV} (h : loadA P ty t id off = some v) {p : Place} (hp : ρ id = some p) :
    ∃ V, v.toV env ρ = some V ∧ (loadVar ty ⟨p.block, p.off + off, none⟩).run P w = .ok V w := by
  unfold loadA at h
  split at h
  · cases h
  · rename_i l hr
    obtain ⟨yo, hg, hyo⟩ := rowOf_ok hr
    have agg : ((∃ fs, P.underlying ty = some (.struct fs)) ∨ ∃ n e, P.underlying ty = some (.array n e)) →
        (match P.info? ty with
          | some i => match known ((l.drop off).take i.size) with
            | some vs => if vs.length == i.size then some (AV.agg vs) else none
            | none => none
          | none => none) = some v → ∃ V, v.toV env ρ = some V ∧ (loadVar ty ⟨p.block, p.off + off, none⟩).run P w = .ok V w := by
      intro hd h
      have ha : (isAgg ty).run P w = .ok true w := by
        rcases hd with ⟨fs, hu⟩ | ⟨n, e, hu⟩ <;> simp [isAgg, run_underlying hu]
      split at h
      · rename_i i hi
        split at h
        · rename_i vs hk
          split at h
          · rename_i hlen
            cases h
            have hlen : vs.length = i.size := by simpa using hlen
            obtain ⟨xs, hxs, hc⟩ := row_cells r hg hyo hp hk
            have hlx := toVs_length hxs
            refine ⟨.agg xs.toArray, by simp [AV.toV, hxs], ?_⟩
            have := run_loadCells_list (P := P) w ⟨p.block, p.off + off, none⟩ xs hc
            rw [hlx, hlen] at this
            simp [loadVar, ha, run_sizeOf hi, this]
          · cases h
        · cases h
      · cases h
    split at h
    · rename_i fs hu; exact agg (.inl ⟨fs, hu⟩) h
    · rename_i n e hu; exact agg (.inr ⟨n, e, hu⟩) h
    · rename_i d h1 h2 hu
      split at h
      · rename_i u hu'
        cases h
        obtain ⟨x, hx, hc⟩ := r.cellO hg hyo hp hu'
        refine ⟨x, hx, ?_⟩
        simp [loadVar, run_isAgg_not hu h1 h2 w, hc]
      · cases h
    · cases h

theorem rLoad_ok (r : Rep env ρ t.get w) {ty : TypeId} {x : Operand} {v : AV} (h : rLoad P ev t ty x = some v) (hx : ∀ v, ev x = some v → v.toV env ρ = some (f x)) (ho : o.op = .load ty x) : Reads P env ρ f o v w := by
  unfold rLoad at h
  split at h
  · rename_i id off he
    obtain ⟨p, hp, hX⟩ := toV_ptr (hx _ he)
    obtain ⟨V, hV, hr⟩ := loadA_ok r h hp
    exact ⟨V, hV, by simp [execOp, ho, Instr.loadAt, hX, Instr.sureAddr, hr]⟩
  · cases h

theorem bytesOf_ok : ∀ {vs : List AV} {bs : List UInt8} {xs : List Value}, bytesOf vs = some bs → toVs env ρ vs = some xs →
    ∃ ns : List Int, xs = ns.map (Value.int .u8) ∧ bs = ns.map fun n => UInt8.ofNat n.toNat
  | [], bs, xs, h, hx => by simp [bytesOf] at h; simp [toVs] at hx; subst h hx; exact ⟨[], rfl, rfl⟩
  | v :: vs, bs, xs, h, hx => by
    unfold bytesOf at h
    split at h
    · rename_i e; cases e
    · rename_i n l e
      cases e
      split at h
      · rename_i bs' hb
        cases h
        obtain ⟨y, ys, hy, hys, rfl⟩ := toVs_cons hx
        obtain ⟨ns, rfl, rfl⟩ := bytesOf_ok hb hys
        rw [toV_int hy]
        exact ⟨n :: ns, by simp, by simp⟩
      · cases h
    · cases h

end
end Go.Rx
