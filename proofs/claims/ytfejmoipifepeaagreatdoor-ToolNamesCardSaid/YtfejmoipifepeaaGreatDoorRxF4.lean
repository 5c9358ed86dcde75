/- The executor is right: append and copy. -/
import Derived.Test.YtfejmoipifepeaaGreatDoorRxF3
set_option linter.unusedSimpArgs false
set_option linter.unusedVariables false
set_option linter.unusedSectionVars false
namespace Go.Rx
open Go.Builtin (lenOf firstCells zeroCells nextslicecap growBy)

/- What is appended, as the model reads it. -/
inductive AppSrc (P : Program) (elem : TypeId) (i : TypeInfo) (xt : Option TypeId) (X : Value) (k : Nat) (xs : List Value) (w : World) : Prop where
  | zeros (ty : TypeId) (kd kk : IntKind) (Z : Value) (hx : xt = some ty) (hu : P.underlying ty = some (.int kd)) (hX : X = .int kk k) (hk : k ≤ 10000000) (hb : k * i.bytes ≤ 281474976710656)
      (hz : i.zero = some Z) (hs : Z.cells.size = i.size) (h1 : 1 ≤ i.size) (hxs : xs = (List.replicate k Z.cells.toList).flatten)
  | plain (hx : ∀ ty, xt = some ty → ∃ d, P.underlying ty = some d ∧ ∀ kd, d ≠ .int kd) (hl : (lenOf X).run P w = .ok k w) (hf : ∀ m, m ≤ k → (firstCells i.size m X).run P w = .ok (xs.take (m * i.size)).toArray w)

section
variable {P : Program} {env : Env} {ρ : Ren} {ev : Ev} {f : Operand → Value} {o : Oper} {t t' : T AObj} {w : World} {n n' : Nat}

theorem string_cells (s : List UInt8) (m : Nat) : ((ByteArray.mk s.toArray).extract 0 m).data.map (fun b => Value.int .u8 b.toNat) = ((s.map fun b => Value.int .u8 b.toNat).take m).toArray := by
  apply Array.ext'
  have : ((ByteArray.mk s.toArray).extract 0 m).data.toList = s.take m := by simp
  simp [this, List.map_take]

theorem toVs_bytes (s : List UInt8) : toVs env ρ (s.map fun b => AV.int .u8 b.toNat) = some (s.map fun b => Value.int .u8 b.toNat) := by
  induction s with
  | nil => rfl
  | cons b s ih => exact toVs_cons_mk rfl ih

theorem appendedA_ok (r : Rep env ρ t.get w) {elem : TypeId} {xt : Option TypeId} {x : AV} {i : TypeInfo} {k : Nat} {cs : List AV} (h : appendedA P t elem xt x i = some (k, cs)) (hi : P.info? elem = some i)
    (hxt : ∀ ty, xt = some ty → ∃ d, P.underlying ty = some d) {X : Value} (hx : x.toV env ρ = some X) :
    ∃ xs, toVs env ρ cs = some xs ∧ xs.length = k * i.size ∧ AppSrc P elem i xt X k xs w := by
  have plain : (∀ kd, (match xt with | some ty => P.underlying ty | none => none) ≠ some (.int kd)) → ∀ ty, xt = some ty → ∃ d, P.underlying ty = some d ∧ ∀ kd, d ≠ .int kd := by
    intro hn ty e
    obtain ⟨d, hd⟩ := hxt ty e
    refine ⟨d, hd, fun kd e2 => hn kd ?_⟩
    subst e; subst e2; exact hd
  unfold appendedA at h
  split at h
  · rename_i kd kk m hu
    split at h
    · rename_i z hz
      split at h
      · rename_i hc
        simp only [Bool.and_eq_true] at hc
        have c1 := Nat.eq_of_beq_eq_true hc.1.1.1
        have c2 := Nat.le_of_ble_eq_true hc.1.1.2
        have c3 := Nat.le_of_ble_eq_true hc.1.2
        have c4 := Nat.le_of_ble_eq_true hc.2
        cases h
        obtain ⟨i', Z, hi', hiz, hZ⟩ := zeroA_ok (env := env) (ρ := ρ) hz
        rw [hi] at hi'; cases hi'
        have hcz := cellsA_ok hZ
        have hlz := toVs_length hcz
        have hzs : Z.cells.size = i.size := by simp at hlz; omega
        cases xt with
        | none => cases hu
        | some ty =>
          refine ⟨_, toVs_zeros hcz _, ?_, .zeros ty kd kk Z rfl hu (toV_int hx) c2 c3 hiz hzs c4 rfl⟩
          simp [hzs]
      · cases h
    · cases h
  · cases h
  · rename_i s hn
    split at h
    · rename_i hs
      have hs := Nat.eq_of_beq_eq_true hs
      cases h
      refine ⟨_, toVs_bytes s, by simp [hs], .plain (plain fun kd e => hn kd e) ?_ fun m hm => ?_⟩
      · rw [toV_str hx]; simp [lenOf, ByteArray.size]
      · rw [toV_str hx]
        simp only [firstCells, Sem.run_pure, string_cells, hs, Nat.mul_one]
    · cases h
  · rename_i m cp op hn
    split at h
    · rename_i hm
      have hm := Nat.eq_of_beq_eq_true hm
      cases h
      obtain ⟨_, rfl⟩ := toV_slice_none hx
      refine ⟨[], rfl, by simp, .plain (plain fun kd e => hn kd e) ?_ fun q hq => ?_⟩
      · simp [lenOf, hm]
      · simp [firstCells]
    · cases h
  · rename_i id off m cp op hn
    split at h
    · rename_i l hl
      obtain ⟨yo, hg, hyo⟩ := rowOf_ok hl
      split at h
      · rename_i vs hk
        split at h
        · rename_i hlen
          have hlen := Nat.eq_of_beq_eq_true hlen
          cases h
          obtain ⟨p, hp, rfl⟩ := toV_slice hx
          obtain ⟨xs, hxs, hc⟩ := row_cells r hg hyo hp hk
          have hlx := toVs_length hxs
          refine ⟨xs, hxs, by omega, .plain (plain fun kd e => hn kd e) ?_ fun q hq => ?_⟩
          · simp [lenOf]
          · have hlt : (xs.take (q * i.size)).length = q * i.size := by
              have : q * i.size ≤ k * i.size := Nat.mul_le_mul_right _ hq
              simp; omega
            have := run_loadCells_list (P := P) w ⟨p.block, p.off + off, none⟩ (xs.take (q * i.size)) (fun j v hj => hc j v (by
              rw [List.getElem?_take] at hj
              split at hj
              · exact hj
              · cases hj))
            rw [hlt] at this
            simp [firstCells, this]
        · cases h
      · cases h
    · cases h
  · cases h

theorem nextslicecap_le (need cap : Nat) (h : cap < need) : nextslicecap need cap ≤ 2 * need + 1000 := by
  have g : ∀ r c, c < need → growBy need r c ≤ 2 * need + 1000 := by
    intro r
    induction r with
    | zero => intro c hc; simp [growBy]; omega
    | succ r ih =>
      intro c hc
      simp only [growBy]
      rw [if_neg (by omega)]
      by_cases h2 : c + (c + 768) / 4 < need
      · exact ih _ h2
      · cases r with
        | zero => simp [growBy]; omega
        | succ r => simp only [growBy]; rw [if_pos (by omega)]; omega
  unfold nextslicecap
  split
  · omega
  · split
    · omega
    · exact g 4 cap h


theorem zeros_lit {Z : Value} {i : TypeInfo} (hs : Z.cells.size = i.size) (h1 : 1 ≤ i.size) (k : Nat) : zeroCells Z.cells k = ((List.replicate k Z.cells.toList).flatten).toArray := by
  apply Array.ext'
  have := zeros_eq Z.cells.toList i.size (by simpa using hs) h1 k
  simp only [zeroCells, hs, Array.toList_map, Array.toList_range]
  simpa [hs] using this

def Wrote (P : Program) : Option Addr → Nat → List Value → World → World → Prop
  | none, _, _, w, w' => w' = w
  | some a, k, xs, w, w' => (storeCells (a.add k) xs).run P w = .ok () w'

set_option maxHeartbeats 1000000 in
theorem run_append_fit {ts : Array TypeId} {st elem ty : TypeId} {i : TypeInfo} {X : Value} {k len cap : Nat} {xs : List Value} {base : Option Addr} {w' : World} (h0 : ts[0]? = some st) (hst : P.underlying st = some (.slice elem)) (hi : P.info? elem = some i) (hlx : xs.length = k * i.size)
    (src : AppSrc P elem i ts[1]? X k xs w) (hfit : len + k ≤ cap) (hw : Wrote P base (len * i.size) xs w w') :
    (Builtin.append_ ts ty #[.slice base len cap, X]).run P w = .ok (.slice base (len + k) cap) w' := by
  cases src with
  | zeros ty' kd kk Z hx hu hX hk hb hz hs h1 hxs =>
    subst hX
    have hwrap : IntKind.i64.wrap (k : Int) = k := IntWalk.i64_in _ (by omega)
    have hn0 : ¬ (k : Int) < 0 := by omega
    have hb2 : ¬ (281474976710656 : Int) < (k : Int) * (i.bytes : Int) := by
      rw [← Int.natCast_mul]; omega
    have w0 : IntKind.i64.wrap 0 = 0 := IntWalk.i64_in _ (by omega)
    have hlit := zeros_lit hs h1 k
    rw [← hxs] at hlit
    by_cases hz0 : k = 0
    · subst hz0
      simp at hxs
      subst hxs
      have hfit : len ≤ cap := by omega
      cases base with
      | none => simp only [Wrote] at hw; subst hw; simp [Builtin.append_, h0, hx, run_underlying hst, run_underlying hu, sizeOf, typeInfo, hi, asInt, asIntOf, w0, hfit]
      | some a => simp only [Wrote] at hw; simp [Builtin.append_, h0, hx, run_underlying hst, run_underlying hu, sizeOf, typeInfo, hi, asInt, asIntOf, w0, hfit, hw]
    · have hz1 : ¬ k * i.size = 0 := Nat.mul_ne_zero hz0 (by omega)
      cases base with
      | none => simp only [Wrote] at hw; subst hw; simp [Builtin.append_, h0, hx, run_underlying hst, run_underlying hu, sizeOf, typeInfo, hi, asInt, asIntOf, hwrap, hn0, hb2, hfit, hz1, zeroValue, hz, hlit]
      | some a => simp only [Wrote] at hw; simp [Builtin.append_, h0, hx, run_underlying hst, run_underlying hu, sizeOf, typeInfo, hi, asInt, asIntOf, hwrap, hn0, hb2, hfit, hz1, zeroValue, hz, hlit, hw]
  | plain hx hl hf =>
    have hf' := hf k (Nat.le_refl _)
    have hxl : xs.take (k * i.size) = xs := by rw [List.take_of_length_le (by omega)]
    rw [hxl] at hf'
    cases ht : ts[1]? with
    | none =>
      cases base with
      | none => simp only [Wrote] at hw; subst hw; simp [Builtin.append_, h0, ht, run_underlying hst, sizeOf, typeInfo, hi, hl, hfit, hf']
      | some a => simp only [Wrote] at hw; simp [Builtin.append_, h0, ht, run_underlying hst, sizeOf, typeInfo, hi, hl, hfit, hf', hw]
    | some ty' =>
      obtain ⟨d, hd, hne⟩ := hx ty' ht
      have hz : (match d with | .int _ => true | _ => false) = false := by
        cases d <;> first | rfl | exact absurd rfl (hne _)
      cases base with
      | none => simp only [Wrote] at hw; subst hw; simp [Builtin.append_, h0, ht, run_underlying hst, run_underlying hd, hz, sizeOf, typeInfo, hi, hl, hfit, hf']
      | some a => simp only [Wrote] at hw; simp [Builtin.append_, h0, ht, run_underlying hst, run_underlying hd, hz, sizeOf, typeInfo, hi, hl, hfit, hf', hw]

set_option maxHeartbeats 1000000 in
theorem run_append_grow {ts : Array TypeId} {st elem ty : TypeId} {i : TypeInfo} {X Z : Value} {k len cap : Nat} {old xs : List Value} {base : Option Addr} (h0 : ts[0]? = some st) (hst : P.underlying st = some (.slice elem)) (hi : P.info? elem = some i) (hz : i.zero = some Z)
    (hlx : xs.length = k * i.size) (src : AppSrc P elem i ts[1]? X k xs w) (src1 : AppSrc P elem i ts[1]? X k xs w.drew) (hgrow : ¬ len + k ≤ cap) (hneed : len + k ≤ 281474976710656) (h48 : (2 * (len + k) + 1000) * i.bytes ≤ 281474976710656)
    (hold : (firstCells i.size len (.slice base len cap)).run P w.drew = .ok old.toArray w.drew) :
    (Builtin.append_ ts ty #[.slice base len cap, X]).run P w = .ok (.slice (some ⟨w.heap.size, 0, none⟩) (len + k) (grownCap w (len + k) cap elem))
      (w.drew.alloc (.cells (old.toArray ++ (xs.toArray ++ zeroCells Z.cells (grownCap w (len + k) cap elem - (len + k)))) elem)) := by
  have hcap : cap < len + k := by omega
  have hncap := nextslicecap_le (len + k) cap hcap
  have h1' : ¬ (9223372036854775807 : Int) < (len : Int) + (k : Int) := by omega
  have h2' : ¬ 281474976710656 < nextslicecap (len + k) cap * i.bytes := by
    have := Nat.mul_le_mul_right i.bytes hncap
    omega
  cases src with
  | zeros ty' kd kk Z' hx hu hX hk hb hz' hs h1s hxs =>
    rw [hz] at hz'; cases hz'
    subst hX
    have hwrap : IntKind.i64.wrap (k : Int) = k := IntWalk.i64_in _ (by omega)
    have hn0 : ¬ (k : Int) < 0 := by omega
    have hb2 : ¬ (281474976710656 : Int) < (k : Int) * (i.bytes : Int) := by
      rw [← Int.natCast_mul]; omega
    have w0 : IntKind.i64.wrap 0 = 0 := IntWalk.i64_in _ (by omega)
    have hlit := zeros_lit hs h1s k
    rw [← hxs] at hlit
    have q0 : (Question.appendCap (len + k) cap elem).forced = false := rfl
    by_cases hz0 : k = 0
    · subst hz0
      simp at hxs
      subst hxs
      have hgrow : ¬ len ≤ cap := by omega
      simp only [Nat.add_zero] at *
      have h1' : ¬ (9223372036854775807 : Int) < (len : Int) := by omega
      simp [Builtin.append_, h0, hx, run_underlying hst, run_underlying hu, sizeOf, typeInfo, hi, asInt, asIntOf, w0, hgrow, h1', h2', hold, q0, grownCap, zeroValue, hz, newRow]
    · have hz1 : ¬ k * i.size = 0 := Nat.mul_ne_zero hz0 (by omega)
      simp [Builtin.append_, h0, hx, run_underlying hst, run_underlying hu, sizeOf, typeInfo, hi, asInt, asIntOf, hwrap, hn0, hb2, hgrow, h1', h2', hold, hz1, q0, grownCap, zeroValue, hz, hlit, newRow]
  | plain hx hl hf =>
    cases src1 with
    | zeros ty' kd kk Z' hx' hu hX hk hb hz' hs h1s hxs =>
      obtain ⟨d, hd, hne⟩ := hx ty' hx'
      rw [hu] at hd; cases hd
      exact absurd rfl (hne _)
    | plain hx' hl' hf' =>
      have hf2 := hf' k (Nat.le_refl _)
      have hxl : xs.take (k * i.size) = xs := by rw [List.take_of_length_le (by omega)]
      rw [hxl] at hf2
      have q0 : (Question.appendCap (len + k) cap elem).forced = false := rfl
      cases ht : ts[1]? with
      | none =>
        simp [Builtin.append_, h0, ht, run_underlying hst, sizeOf, typeInfo, hi, hl, hgrow, h1', h2', hold, hf2, q0, grownCap, zeroValue, hz, newRow]
      | some ty' =>
        obtain ⟨d, hd, hne⟩ := hx ty' ht
        have hzz : (match d with | .int _ => true | _ => false) = false := by
          cases d <;> first | rfl | exact absurd rfl (hne _)
        simp [Builtin.append_, h0, ht, run_underlying hst, run_underlying hd, hzz, sizeOf, typeInfo, hi, hl, hgrow, h1', h2', hold, hf2, q0, grownCap, zeroValue, hz, newRow]

end
end Go.Rx
