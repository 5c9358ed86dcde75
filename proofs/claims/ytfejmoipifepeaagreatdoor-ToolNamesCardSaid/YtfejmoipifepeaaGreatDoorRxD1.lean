/- The executor is right: operations that look at no memory. -/
import Derived.Test.YtfejmoipifepeaaGreatDoorRxC
import Derived.Laws.StructEq
import Derived.Tactics
import Derived.IntWalk
set_option linter.unusedSimpArgs false
set_option linter.unusedVariables false
set_option linter.unusedSectionVars false
namespace Go.Rx

/- What an evaluation of operands says of a frame's. -/
def EvOk (env : Env) (ρ : Ren) (ev : Ev) (f : Operand → Value) (xs : Array Operand) : Prop :=
  ∀ x ∈ xs, ∀ v, ev x = some v → v.toV env ρ = some (f x)

def Pure (P : Program) (env : Env) (ρ : Ren) (f : Operand → Value) (o : Oper) (v : AV) : Prop :=
  ∃ V, v.toV env ρ = some V ∧ ∀ w, (execOp f o).run P w = .ok (.value V) w

section
variable {P : Program} {env : Env} {ρ : Ren} {ev : Ev} {f : Operand → Value} {o : Oper}

theorem evs_ok : ∀ {l : List Operand} {vs : List AV}, (∀ x ∈ l, ∀ v, ev x = some v → v.toV env ρ = some (f x)) → evs ev l = some vs → toVs env ρ vs = some (l.map f)
  | [], vs, _, h => by simp [evs] at h; subst h; rfl
  | x :: l, vs, he, h => by
    simp only [evs] at h
    split at h
    · rename_i v us hv hu; cases h
      exact toVs_cons_mk (he x (by simp) v hv) (evs_ok (fun y hy => he y (by simp [hy])) hu)
    · cases h

/- Integers. -/
theorem fits_in (k : IntKind) (n : Int) (h : fits k n = true) : k.wrap n = n := by
  cases n with
  | ofNat m =>
    cases k <;> simp only [fits, Nat.blt_eq] at h
    · exact IntWalk.i8_in _ (by simp only [Int.ofNat_eq_natCast]; omega)
    · exact IntWalk.i16_in _ (by simp only [Int.ofNat_eq_natCast]; omega)
    · exact IntWalk.i32_in _ (by simp only [Int.ofNat_eq_natCast]; omega)
    · exact IntWalk.i64_in _ (by simp only [Int.ofNat_eq_natCast]; omega)
    · exact IntWalk.u8_in _ (by simp only [Int.ofNat_eq_natCast]; omega)
    · exact IntWalk.u16_in _ (by simp only [Int.ofNat_eq_natCast]; omega)
    · exact IntWalk.u32_in _ (by simp only [Int.ofNat_eq_natCast]; omega)
    · exact IntWalk.u64_in _ (by simp only [Int.ofNat_eq_natCast]; omega)
  | negSucc m =>
    cases k <;> simp only [fits, Nat.blt_eq, Bool.false_eq_true] at h
    · exact IntWalk.i8_in _ (by omega)
    · exact IntWalk.i16_in _ (by omega)
    · exact IntWalk.i32_in _ (by omega)
    · exact IntWalk.i64_in _ (by omega)

theorem wrapA_eq (k : IntKind) (n : Int) : wrapA k n = k.wrap n := by
  unfold wrapA
  split
  · rename_i h; exact (fits_in k n h).symm
  · rfl

theorem intA_ok {op : BinOp} {k : IntKind} {x y : Int} {v : AV} (h : intA op k x y = some v) (t : TypeId) (w : World) :
    ∃ V, v.toV env ρ = some V ∧ (binOp op t (.int k x) (.int k y)).run P w = .ok V w := by
  unfold intA at h
  cases op <;> simp only [wrapA_eq] at h <;> first
    | (cases h; exact ⟨_, rfl, by simp [binOp, Op.intArith, Op.intBits, Op.intCmp]⟩)
    | (split at h
       · cases h
       · rename_i hy; cases h; exact ⟨_, rfl, by simp at hy; simp [binOp, Op.intDiv, hy]⟩)
    | cases h

theorem shiftA_ok {op : BinOp} {k k' : IntKind} {x y : Int} {v : AV} (h : shiftA op k x y = some v) (t : TypeId) (w : World) :
    ∃ V, v.toV env ρ = some V ∧ (binOp op t (.int k x) (.int k' y)).run P w = .ok V w := by
  unfold shiftA at h
  split at h
  · cases h
  · rename_i hy
    cases op <;> simp only [wrapA_eq] at h <;> first
      | (cases h; exact ⟨_, rfl, by simp [binOp, Op.shift, hy]⟩)
      | cases h

/- Texts. -/
theorem eqB_eq : ∀ (a b : List UInt8), eqB a b = (a == b)
  | [], [] => rfl
  | [], _ :: _ => rfl
  | _ :: _, [] => rfl
  | a :: x, b :: y => by
    simp only [eqB, eqB_eq x y]
    by_cases h : a = b
    · subst h; simp
    · have : ¬ (a.toNat = b.toNat) := fun e => h (UInt8.toNat_inj.1 e)
      simp [h, this]

theorem lessB_eq : ∀ (a b : List UInt8), lessB a b = Op.bytesLess a b
  | [], [] => rfl
  | _ :: _, [] => rfl
  | [], _ :: _ => rfl
  | a :: x, b :: y => by
    simp only [lessB, Op.bytesLess, lessB_eq x y]
    by_cases h : a < b
    · have : a.toNat < b.toNat := UInt8.lt_iff_toNat_lt.1 h
      simp [h, this]
    · have h1 : ¬ a.toNat < b.toNat := fun e => h (UInt8.lt_iff_toNat_lt.2 e)
      by_cases e : a = b
      · subst e; simp
      · have : ¬ (a.toNat = b.toNat) := fun e' => e (UInt8.toNat_inj.1 e')
        simp [h, h1, e, this]

theorem strA_ok {op : BinOp} {x y : List UInt8} {v : AV} (h : strA op x y = some v) (t : TypeId) (w : World) :
    ∃ V, v.toV env ρ = some V ∧ (binOp op t (.string ⟨x.toArray⟩) (.string ⟨y.toArray⟩)).run P w = .ok V w := by
  unfold strA at h
  cases op <;> simp only [eqB_eq, lessB_eq] at h <;> first
    | (cases h; exact ⟨_, rfl, by simp [binOp, Op.stringOp]⟩)
    | (split at h
       · rename_i hs; cases h
         refine ⟨_, rfl, ?_⟩
         have hs := Nat.le_of_ble_eq_true hs
         have hn : ¬ (((ByteArray.mk x.toArray).size + (ByteArray.mk y.toArray).size : Nat) : Int) > IntKind.i64.max := by
           simp [IntKind.max, IntKind.signed, IntKind.bits, ByteArray.size]; omega
         have he : (ByteArray.mk x.toArray) ++ (ByteArray.mk y.toArray) = ⟨(x ++ y).toArray⟩ := by
           apply ByteArray.ext; simp
         simp only [binOp, Op.stringOp, hn, if_false, he]
         rfl
       · cases h)
    | cases h

/- Equal. -/
theorem run_samePointer_block (b o q : Nat) (w : World) : (samePointer (some ⟨b, o, none⟩) (some ⟨b, q, none⟩)).run P w = .ok (o == q) w := by
  have e : ((⟨b, o, none⟩ : Addr) == ⟨b, q, none⟩) = (o == q) := by
    rw [Bool.eq_iff_iff]; simp
  simp only [samePointer, sameAddr, beq_self_eq_true, if_true]
  rw [← e]
  rfl

theorem run_equalIn_ptr {t e : TypeId} {inf : TypeInfo} (hu : P.underlying t = some (.pointer e)) (hi : P.info? e = some inf) (hs : ¬ inf.size = 0) (a b : Addr) (d : Nat) (w : World) :
    (Op.equalIn (d + 1) t (.pointer (some a)) (.pointer (some b))).run P w = (samePointer (some a) (some b)).run P w := by
  have hz : (sizeOf e).run P w = .ok inf.size w := by simp [sizeOf, typeInfo, hi]
  simp only [Op.equalIn, Sem.run_bind, run_underlying hu, Result.andThen_ok, hz, ne_eq, hs, not_false_eq_true, if_true, samePointer]

theorem eqSegs_ok : ∀ {a b : List Seg}, eqSegs a b = true → a = b
  | [], [], _ => rfl
  | [], _ :: _, h => by simp [eqSegs] at h
  | _ :: _, [], h => by simp [eqSegs] at h
  | .lit a :: x, .lit b :: y, h => by
    simp only [eqSegs, Bool.and_eq_true, eqB_eq, beq_iff_eq] at h
    rw [h.1, eqSegs_ok h.2]
  | .var a :: x, .var b :: y, h => by
    simp only [eqSegs, Bool.and_eq_true, Nat.beq_eq] at h
    rw [h.1, eqSegs_ok h.2]
  | .lit a :: x, .var b :: y, h => by simp [eqSegs] at h
  | .var a :: x, .lit b :: y, h => by simp [eqSegs] at h

set_option maxHeartbeats 2000000 in
theorem eqCell_ok {t : TypeId} {a b : AV} {r : Bool} (h : eqCell P t a b = some r) {A B : Value} (ha : a.toV env ρ = some A) (hb : b.toV env ρ = some B) (d : Nat) (w : World) :
    (Op.equalIn (d + 2) t A B).run P w = .ok r w := by
  unfold eqCell at h
  split at h
  all_goals first | (cases h; done) | skip
  case h_1 hu => cases h; simp [AV.toV] at ha hb; subst ha hb; simp [Op.equalIn, run_underlying hu]
  case h_2 hu =>
    split at h
    · rename_i hk; cases h; simp [AV.toV] at ha hb; subst ha hb hk; simp [Op.equalIn, run_underlying hu]
    · cases h
  case h_3 hu => cases h; simp [AV.toV] at ha hb; subst ha hb; simp [Op.equalIn, run_underlying hu, beq_toListBytes, eqB_eq]
  case h_4 hu => cases h; simp [AV.toV] at ha hb; subst ha hb; simp [Op.equalIn, run_underlying hu]
  case h_5 hu =>
    cases h; simp only [AV.toV] at ha hb; cases ha
    split at hb
    · cases hb; simp [Op.equalIn, run_underlying hu]
    · cases hb
  case h_6 hu =>
    cases h; simp only [AV.toV] at ha hb; cases hb
    split at ha
    · cases ha; simp [Op.equalIn, run_underlying hu]
    · cases ha
  case h_7 e i o j q hu =>
    split at h
    · rename_i hij
      subst hij
      split at h
      · rename_i inf hinf
        split at h
        · cases h
        · rename_i hz
          cases h
          simp only [AV.toV] at ha hb
          split at ha
          · rename_i p hp
            rw [hp] at hb
            cases ha; cases hb
            have e' : (p.off + o == p.off + q) = (o == q) := by rw [Bool.eq_iff_iff]; simp
            rw [run_equalIn_ptr hu hinf hz, run_samePointer_block, e']
          · cases ha
      · cases h
    · cases h
  case h_8 hu =>
    cases h; simp only [AV.toV] at ha hb; cases ha
    split at hb
    · cases hb; simp [Op.equalIn, run_underlying hu]
    · cases hb
  case h_9 hu =>
    cases h; simp only [AV.toV] at ha hb; cases hb
    split at ha
    · cases ha; simp [Op.equalIn, run_underlying hu]
    · cases ha
  case h_10 hu =>
    split at h
    · rename_i hne
      cases h
      simp only [AV.toV] at ha hb
      split at ha
      · split at hb
        · cases ha; cases hb
          simp [Op.equalIn, run_underlying hu, hne]
        · cases hb
      · cases ha
    · cases h
  case h_11 hu => cases h; simp [AV.toV] at ha hb; subst ha hb; simp [Op.equalIn, run_underlying hu]
  case h_12 hu =>
    cases h; simp only [AV.toV] at ha hb; simp at ha; subst ha
    split at hb
    · cases hb; simp [Op.equalIn, run_underlying hu]
    · cases hb
  case h_13 hu =>
    cases h; simp only [AV.toV] at ha hb; simp at hb; subst hb
    split at ha
    · cases ha; simp [Op.equalIn, run_underlying hu]
    · cases ha
  case h_14 hu => cases h; simp [AV.toV] at ha hb; subst ha hb; simp [Op.equalIn, run_underlying hu]
  case h_15 hu =>
    cases h; simp only [AV.toV] at ha hb; cases ha
    split at hb
    · cases hb; simp [Op.equalIn, run_underlying hu]
    · cases hb
  case h_16 hu =>
    cases h; simp only [AV.toV] at ha hb; cases hb
    split at ha
    · cases ha; simp [Op.equalIn, run_underlying hu]
    · cases ha
  case h_17 hu => cases h; simp [AV.toV] at ha hb; subst ha hb; simp [Op.equalIn, run_underlying hu]
  case h_18 hu =>
    cases h; simp only [AV.toV] at ha hb; cases ha
    split at hb
    · cases hb; simp [Op.equalIn, run_underlying hu]
    · cases hb
  case h_19 hu =>
    cases h; simp only [AV.toV] at ha hb; cases hb
    split at ha
    · cases ha; simp [Op.equalIn, run_underlying hu]
    · cases ha
  case h_20 l m hu =>
    split at h
    · rename_i hs
      cases h
      have e := eqSegs_ok hs
      subst e
      rw [ha] at hb; cases hb
      simp only [AV.toV] at ha
      split at ha
      · cases ha; simp [Op.equalIn, run_underlying hu, beq_toListBytes]
      · cases ha
    · cases h

end
end Go.Rx
