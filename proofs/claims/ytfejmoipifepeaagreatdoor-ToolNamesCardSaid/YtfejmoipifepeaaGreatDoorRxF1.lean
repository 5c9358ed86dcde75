/- The executor is right: operations that make one block. -/
import Derived.Test.YtfejmoipifepeaaGreatDoorRxE2
import Derived.Lib.ConvBytes
import Derived.Laws.MakeOwn
set_option linter.unusedSimpArgs false
set_option linter.unusedVariables false
set_option linter.unusedSectionVars false
namespace Go.Rx

/- One block more. -/
structure NewBlock (w w' : World) (X : Obj) : Prop where
  size : w'.heap.size = w.heap.size + 1
  old : ∀ b, b < w.heap.size → w'.heap[b]? = w.heap[b]?
  new : w'.heap[w.heap.size]? = some X
  os : w'.os = w.os
  tape : w'.tape = w.tape
  output : w'.output = w.output

theorem NewBlock.push (w : World) (X : Obj) : NewBlock w { w with heap := w.heap.push X } X :=
  ⟨by simp, fun b hb => by simp only [Array.getElem?_push]; rw [if_neg (by omega)], by simp, rfl, rfl, rfl⟩

def Makes (P : Program) (env : Env) (ρ : Ren) (f : Operand → Value) (o : Oper) (id : Nat) (v : AV) (x : AObj) (w : World) : Prop :=
  ∃ V X extra w', (execOp f o).run P w = .ok (.value V) w' ∧ NewBlock w w' X ∧
    v.toV env (ρ.ext id ⟨w.heap.size, 0, extra⟩) = some V ∧ ORel env (ρ.ext id ⟨w.heap.size, 0, extra⟩) ⟨w.heap.size, 0, extra⟩ x X

section
variable {P : Program} {env : Env} {ρ : Ren} {ev : Ev} {f : Operand → Value} {o : Oper} {w : World} {id : Nat}

theorem orel_cells {l : List AV} {L : List Value} (h : toVs env ρ l = some L) (b e : Nat) : ORel env ρ ⟨b, 0, 0⟩ (.cells (l.map some) e false) (.cells L.toArray e (0, 0)) := by
  refine ⟨L.toArray, 0, 0, rfl, by simp [toVs_length h], fun i v hv => ?_, fun _ => .inl rfl⟩
  have hi : l[i]? = some v := by
    rw [List.getElem?_map] at hv
    cases hl : l[i]? with
    | none => simp [hl] at hv
    | some u => simp [hl] at hv; rw [hv]
  obtain ⟨x, hx, hv'⟩ := toVs_get h hi
  exact ⟨x, hv', by simpa using hx⟩

theorem ext_mono {p : Place} (hn : ρ id = none) {v : AV} {V : Value} (h : v.toV env ρ = some V) : v.toV env (ρ.ext id p) = some V := AV.toV_mono (Ren.le_ext hn) v V h
theorem exts_mono {p : Place} (hn : ρ id = none) {l : List AV} {L : List Value} (h : toVs env ρ l = some L) : toVs env (ρ.ext id p) l = some L := toVs_mono (Ren.le_ext hn) l L h

theorem toV_ptr_new (p : Place) : (AV.ptr (some (id, 0))).toV env (ρ.ext id p) = some (.pointer (some ⟨p.block, p.off, none⟩)) := by
  simp [AV.toV, Ren.ext_self]
theorem toV_slice_new (p : Place) (l c : Nat) (op : Bool) : (AV.slice (some (id, 0)) l c op).toV env (ρ.ext id p) = some (.slice (some ⟨p.block, p.off, none⟩) l (if op then c + p.extra else c)) := by
  simp [AV.toV, Ren.ext_self]

theorem aAlloc_ok {ty : TypeId} {v : AV} {x : AObj} (h : aAlloc P id ty = some (v, x)) (hn : ρ id = none) (ho : o.op = .alloc ty) : Makes P env ρ f o id v x w := by
  unfold aAlloc at h
  split at h
  · rename_i z hz
    cases h
    obtain ⟨i, Z, hi, hiz, hZ⟩ := zeroA_ok (env := env) (ρ := ρ) hz
    refine ⟨_, .cells Z.cells ty, 0, { w with heap := w.heap.push (.cells Z.cells ty) }, ?_, .push _ _, toV_ptr_new _, ?_⟩
    · simp [execOp, ho, Instr.alloc, run_zeroValue hi hiz, newVar, newRow]
    · have := orel_cells (cellsA_ok (ext_mono (p := ⟨w.heap.size, 0, 0⟩) hn hZ)) w.heap.size ty
      simpa using this
  · cases h

theorem aBox_ok {ty : TypeId} {y : Operand} {v : AV} {x : AObj} (h : aBox ev id ty y = some (v, x)) (hy : ∀ v, ev y = some v → v.toV env ρ = some (f y)) (hn : ρ id = none) (ho : o.op = .box ty y) : Makes P env ρ f o id v x w := by
  unfold aBox at h
  split at h
  · rename_i u hu
    cases h
    refine ⟨_, .cells (f y).cells ty, 0, { w with heap := w.heap.push (.cells (f y).cells ty) }, ?_, .push _ _, toV_ptr_new _, ?_⟩
    · simp [execOp, ho, Instr.box, newVar, newRow]
    · have := orel_cells (cellsA_ok (ext_mono (p := ⟨w.heap.size, 0, 0⟩) hn (hy _ hu))) w.heap.size ty
      simpa using this
  · cases h

theorem zeros_eq {α : Type} [Inhabited α] (z : List α) (s : Nat) (hs : z.length = s) (h0 : 1 ≤ s) : ∀ n, (List.range (n * s)).map (fun i => z.toArray[i % z.toArray.size]!) = (List.replicate n z).flatten
  | 0 => by simp
  | n + 1 => by
    have ih := zeros_eq z s hs h0 n
    have hr : List.range ((n + 1) * s) = List.range (n * s) ++ (List.range s).map (n * s + ·) := by
      rw [Nat.succ_mul, List.range_add]
    rw [hr, List.map_append, ih, List.map_map, List.replicate_succ', List.flatten_append]
    congr 1
    simp only [List.flatten_cons, List.flatten_nil, List.append_nil]
    apply List.ext_getElem?
    intro i
    by_cases hi : i < s
    · have hi' : i < z.length := by omega
      have hm : (n * s + i) % s = i := by
        rw [Nat.add_comm, Nat.add_mul_mod_self_right, Nat.mod_eq_of_lt hi]
      simp [hi, hs, hm, List.getElem?_eq_getElem hi', hi']
    · have : z[i]? = none := List.getElem?_eq_none (by omega)
      simp [hi, this]

theorem toVs_zeros {z : List AV} {Z : List Value} (h : toVs env ρ z = some Z) : ∀ n, toVs env ρ (zeros n z) = some (List.replicate n Z).flatten
  | 0 => rfl
  | n + 1 => by
    have ih := toVs_zeros h n
    simp only [zeros, List.replicate_succ, List.flatten_cons] at ih ⊢
    exact toVs_append h ih

theorem aBuildSlice_ok {ty : TypeId} {len : Nat} {parts : Array (Nat × Operand)} {v : AV} {x : AObj} (h : aBuildSlice P ev id ty len parts = some (v, x))
    (hp : ∀ p ∈ parts.toList, ∀ v, ev p.2 = some v → v.toV env ρ = some (f p.2)) (hn : ρ id = none) (ho : o.op = .buildSlice ty len parts) : Makes P env ρ f o id v x w := by
  unfold aBuildSlice at h
  split at h
  · rename_i elem hu
    split at h
    · rename_i i z l hi hz hl
      split at h
      · rename_i hc
        simp only [Bool.and_eq_true] at hc
        have hc1 := Nat.le_of_ble_eq_true hc.1.1
        have hc2 := Nat.eq_of_beq_eq_true hc.1.2
        have hc3 := Nat.le_of_ble_eq_true hc.2
        split at h
        · rename_i cs hf
          cases h
          obtain ⟨i', Z, hi', hiz, hZ⟩ := zeroA_ok (env := env) (ρ := ρ) hz
          rw [hi] at hi'; cases hi'
          have hcz := cellsA_ok hZ
          have hlz := toVs_length hcz
          obtain ⟨h1, h2⟩ := evPairs_ok hp hl
          obtain ⟨Y, hY, hfill⟩ := fill_ok (by simp [h1]) h2 (toVs_zeros hcz len) hf
          refine ⟨_, .cells Y.toArray elem, 0, { w with heap := w.heap.push (.cells Y.toArray elem) }, ?_, .push _ _, toV_slice_new _ _ _ _, orel_cells (exts_mono hn hY) _ _⟩
          have hbig : ¬ len * i.size > 2 ^ 24 := by have : (2 : Nat) ^ 24 = 16777216 := by decide
                                                    omega
          have hzs : (((Array.range (len * i.size)).map (fun j => Z.cells[j % Z.cells.size]!))) = ((List.replicate len Z.cells.toList).flatten).toArray := by
            apply Array.ext'
            have := zeros_eq Z.cells.toList i.size (by simp at hlz ⊢; omega) hc3 len
            simpa [Array.toList_range] using this
          simp only [execOp, ho, Instr.buildSlice]
          simp only [Sem.run_bind, run_underlying hu, Result.andThen_ok, run_sizeOf hi, hbig, if_false]
          by_cases h0 : len * i.size = 0
          · have hl0 : len = 0 := by
              rcases Nat.mul_eq_zero.1 h0 with h | h
              · exact h
              · omega
            subst hl0
            simp only [List.replicate_zero, List.flatten_nil] at hfill
            have r0 : Array.range 0 = #[] := rfl
            simp [r0, hfill, newRow]
          · simp only [h0, if_false, Sem.run_bind, run_zeroValue hi hiz, Result.andThen_ok, Sem.run_pure, hzs]
            simp [hfill, newRow]
        · cases h
      · cases h
    · cases h
  · cases h


theorem aMakeMap_ok {ty : TypeId} (hn : ρ id = none) (ho : o.op = .makeMap ty none) : Makes P env ρ f o id (.map (some id)) (.map [] 0) w := by
  refine ⟨.map (some w.heap.size), .map #[] 0, 0, { w with heap := w.heap.push (.map #[] 0) }, ?_, .push _ _, ?_, ?_⟩
  · simp [execOp, ho, Instr.makeMap]
  · simp [AV.toV, Ren.ext_self]
  · exact ⟨#[], rfl, rfl, fun i k v b h => by simp at h⟩

theorem aMakeSlice_ok {ty : TypeId} {l c : Operand} {v : AV} {x : AObj} (h : aMakeSlice P ev id ty l c = some (v, x))
    (hl : ∀ v, ev l = some v → v.toV env ρ = some (f l)) (hc : ∀ v, ev c = some v → v.toV env ρ = some (f c)) (hn : ρ id = none) (ho : o.op = .makeSlice ty l c) : Makes P env ρ f o id v x w := by
  unfold aMakeSlice at h
  split at h
  · rename_i elem n m hu hln hcm
    obtain ⟨k1, hk1⟩ := idxA_ok hln hl
    obtain ⟨k2, hk2⟩ := idxA_ok hcm hc
    split at h
    · rename_i i z hi hz
      split at h
      · rename_i hcd
        simp only [Bool.and_eq_true] at hcd
        have h1 := Nat.le_of_ble_eq_true hcd.1.1.1.1
        have h2 := Nat.le_of_ble_eq_true hcd.1.1.1.2
        have h3 := Nat.le_of_ble_eq_true hcd.1.1.2
        have h4 := Nat.eq_of_beq_eq_true hcd.1.2
        have h5 := Nat.le_of_ble_eq_true hcd.2
        cases h
        obtain ⟨i', Z, hi', hiz, hZ⟩ := zeroA_ok (env := env) (ρ := ρ) hz
        rw [hi] at hi'; cases hi'
        have hcz := cellsA_ok hZ
        have hlz := toVs_length hcz
        have hzs : (((Array.range (m * i.size)).map (fun j => Z.cells[j % Z.cells.size]!))) = ((List.replicate m Z.cells.toList).flatten).toArray := by
          apply Array.ext'
          have := zeros_eq Z.cells.toList i.size (by simp at hlz ⊢; omega) h5 m
          simpa [Array.toList_range] using this
        have hrun := run_make w ty elem i Z hu hi hiz k1 k2 (n : Int) (m : Int) (by omega) (by omega) (by rw [← Int.natCast_mul]; omega) (by omega)
        refine ⟨_, .cells ((List.replicate m Z.cells.toList).flatten).toArray elem, 0, { w with heap := w.heap.push (.cells ((List.replicate m Z.cells.toList).flatten).toArray elem) }, ?_, .push _ _, toV_slice_new _ _ _ _, orel_cells (exts_mono hn (toVs_zeros hcz m)) _ _⟩
        have hmade : madeCells Z.cells (m * i.size) = ((List.replicate m Z.cells.toList).flatten).toArray := hzs
        simp only [Int.toNat_natCast, hmade] at hrun
        simp only [execOp, ho]
        simp only [hk1, hk2, Sem.run_bind, hrun]
        rfl
      · cases h
    · cases h
  · cases h

/- The environment knows how many cells a type's values have. -/
def SzOk (P : Program) (env : Env) : Prop := ∀ t i, P.info? t = some i → env.sz t = i.size

theorem aConv_ok (hE : SzOk P env) {src dst : TypeId} {y : Operand} {v : AV} {x : AObj} (h : aConv P ev id src dst y = some (v, x)) (hy : ∀ v, ev y = some v → v.toV env ρ = some (f y)) (hn : ρ id = none) (ho : o.op = .convert src dst y) :
    Makes P env ρ f o id v x w := by
  unfold aConv at h
  split at h
  · rename_i e s hs hd he
    split at h
    · rename_i hu
      split at h
      case h_2 => cases h
      rename_i inf hinf
      split at h
      case h_2 => cases h
      rename_i hi1
      have hsz1 : env.sz e = 1 := by rw [hE e inf hinf]; exact Nat.eq_of_beq_eq_true hi1
      cases h
      have hc := Lib.run_convert_string_bytes w src dst e ⟨s.toArray⟩ hs hd hu
      have hsz : (ByteArray.mk s.toArray).size = s.length := by simp [ByteArray.size]
      have hge : s.length ≤ grownCap w s.length 0 e := by
        simp only [grownCap, Question.cut]
        omega
      have hcells : (Lib.bytesCells w e ⟨s.toArray⟩).size = grownCap w s.length 0 e := by
        simp only [Lib.bytesCells, hsz]
        simp
        omega
      refine ⟨_, .cells (Lib.bytesCells w e ⟨s.toArray⟩) e ((Lib.bytesCells w e ⟨s.toArray⟩).size, (Lib.bytesCells w e ⟨s.toArray⟩).size + 1), grownCap w s.length 0 e - s.length, Lib.bytesWorld w e ⟨s.toArray⟩, ?_,
        ⟨Lib.bytesWorld_size w e _, fun b hb => Lib.bytesWorld_at_old w e _ b hb, Lib.bytesWorld_at_new w e _, rfl, rfl, rfl⟩, toV_slice_new _ _ _ _, ?_⟩
      · simp only [if_true]
        rw [hsz] at hc
        have : s.length + (grownCap w s.length 0 e - s.length) = grownCap w s.length 0 e := by omega
        simp [execOp, ho, toV_str (hy _ he), hc, this]
      · refine ⟨_, _, _, rfl, ?_, fun i v hv => ?_, fun _ => .inr (Nat.le_refl _)⟩
        · rw [hcells, hsz1]; simp; omega
        · rw [List.getElem?_map] at hv
          cases hb : s[i]? with
          | none => simp [hb] at hv
          | some b =>
            simp [hb] at hv
            subst hv
            refine ⟨_, rfl, ?_⟩
            have hi : i < s.length := by
              rcases Nat.lt_or_ge i s.length with h | h
              · exact h
              · rw [List.getElem?_eq_none h] at hb; cases hb
            simp only [Lib.bytesCells, Nat.zero_add]
            rw [Array.getElem?_append_left (by simpa using hi)]
            simp [hb]
    · cases h
  · cases h

theorem aRange_ok {ty : TypeId} {y : Operand} {v : AV} {x : AObj} (h : aRange P ev id ty y = some (v, x)) (hy : ∀ v, ev y = some v → v.toV env ρ = some (f y)) (hn : ρ id = none) (ho : o.op = .range ty y) : Makes P env ρ f o id v x w := by
  unfold aRange at h
  split at h
  · rename_i s hu he
    cases h
    refine ⟨_, .stringIter ⟨s.toArray⟩ 0, 0, { w with heap := w.heap.push (.stringIter ⟨s.toArray⟩ 0) }, ?_, .push _ _, toV_ptr_new _, rfl, rfl⟩
    simp [execOp, ho, Instr.range, run_underlying hu, toV_str (hy _ he)]
  · cases h

theorem evalA_ok (hE : SzOk P env) {v : AV} {x : AObj} (h : evalA P ev id o.op = some (v, x)) (hev : EvOk env ρ ev f o.op.operands) (hn : ρ id = none) : Makes P env ρ f o id v x w := by
  generalize ho : o.op = op at *
  cases op <;> simp only [evalA] at h <;> first
    | (cases h; done)
    | skip
  case alloc ty => exact aAlloc_ok h hn ho
  case box ty x => exact aBox_ok h (hev x (by simp [Op.operands])) hn ho
  case buildSlice ty len parts =>
    refine aBuildSlice_ok h (fun p hp => hev p.2 ?_) hn ho
    simp only [Op.operands, List.mem_toArray, List.mem_map]
    exact ⟨p, hp, rfl⟩
  case makeMap ty r =>
    cases r with
    | none => simp only [evalA] at h; cases h; exact aMakeMap_ok hn ho
    | some r => simp only [evalA] at h; cases h
  case makeSlice ty l c => exact aMakeSlice_ok h (hev l (by simp [Op.operands])) (hev c (by simp [Op.operands])) hn ho
  case convert src dst x => exact aConv_ok hE h (hev x (by simp [Op.operands])) hn ho
  case range ty x => exact aRange_ok h (hev x (by simp [Op.operands])) hn ho

/- A new block: the abstract heap with it, and the world. -/
theorem Makes.rep {h : HF} {v : AV} {x : AObj} (m : Makes P env ρ f o id v x w) (r : Rep env ρ h w) (hn : ρ id = none) :
    ∃ V ρ' w', (execOp f o).run P w = .ok (.value V) w' ∧ v.toV env ρ' = some V ∧ Rep env ρ' (h.up id (some x)) w' ∧ Grows ρ h id w ρ' (h.up id (some x)) (id + 1) w' := by
  obtain ⟨V, X, extra, w', hr, hb, hv, ho⟩ := m
  obtain ⟨r', g⟩ := rep_new (p := ⟨w.heap.size, 0, extra⟩) r hn hb.size hb.old hb.new hb.os hb.tape hb.output rfl ho
  exact ⟨V, _, w', hr, hv, r', g⟩
end
end Go.Rx
