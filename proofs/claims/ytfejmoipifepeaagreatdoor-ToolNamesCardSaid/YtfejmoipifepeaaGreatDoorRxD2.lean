/- The executor is right: operations that look at no memory. -/
import Derived.Test.YtfejmoipifepeaaGreatDoorRxD1
set_option linter.unusedSimpArgs false
set_option linter.unusedVariables false
set_option linter.unusedSectionVars false
namespace Go.Rx
section
variable {P : Program} {env : Env} {ρ : Ren} {ev : Ev} {f : Operand → Value} {o : Oper}

theorem run_part_agg {t : TypeId} {i : TypeInfo} (hd : (∃ fs, P.underlying t = some (.struct fs)) ∨ ∃ n e, P.underlying t = some (.array n e)) (hi : P.info? t = some i) (cs : Array Value) (off : Nat) (w : World) :
    (part t cs off).run P w = .ok (.agg (cs.extract off (off + i.size))) w := by
  have hz : (sizeOf t).run P w = .ok i.size w := by simp [sizeOf, typeInfo, hi]
  have ha : (isAgg t).run P w = .ok true w := by
    rcases hd with ⟨fs, hu⟩ | ⟨n, e, hu⟩ <;> simp [isAgg, run_underlying hu]
  simp [part, ha, hz]

theorem run_isAgg_not {t : TypeId} {d : TypeDesc} (hu : P.underlying t = some d) (h1 : ∀ fs, d ≠ .struct fs) (h2 : ∀ n e, d ≠ .array n e) (w : World) : (isAgg t).run P w = .ok false w := by
  cases d <;> first
    | exact absurd rfl (h1 _)
    | exact absurd rfl (h2 _ _)
    | simp [isAgg, run_underlying hu]

theorem partA_ok {t : TypeId} {cs : List AV} {off : Nat} {v : AV} (h : partA P t cs off = some v) {xs : List Value} (hx : toVs env ρ cs = some xs) (w : World) :
    ∃ V, v.toV env ρ = some V ∧ (part t xs.toArray off).run P w = .ok V w := by
  unfold partA at h
  have agg : ((∃ fs, P.underlying t = some (.struct fs)) ∨ ∃ n e, P.underlying t = some (.array n e)) →
      (match P.info? t with | some i => some (AV.agg ((cs.take (off + i.size)).drop off)) | none => none) = some v → ∃ V, v.toV env ρ = some V ∧ (part t xs.toArray off).run P w = .ok V w := by
    intro hd h
    split at h
    · rename_i i hi
      cases h
      refine ⟨_, ?_, run_part_agg hd hi _ _ w⟩
      have := toVs_drop off (toVs_take (off + i.size) hx)
      simp only [AV.toV, this, Option.some.injEq, Value.agg.injEq]
      apply Array.ext'
      simp [List.drop_take]
    · cases h
  split at h
  · rename_i fs hu; exact agg (.inl ⟨fs, hu⟩) h
  · rename_i n e hu; exact agg (.inr ⟨n, e, hu⟩) h
  · rename_i d h1 h2 hu
    obtain ⟨V, hV, hv⟩ := toVs_get hx h
    refine ⟨V, hv, ?_⟩
    have := run_isAgg_not hu h1 h2 w
    simp [part, this, hV]
  · cases h

/- Structs: field by field. -/
theorem eqCells_ok : ∀ {fs : List Field} {xs ys : List AV} {r : Bool} (_ : eqCells P fs xs ys = some r) {X Y : List Value} (_ : toVs env ρ xs = some X) (_ : toVs env ρ ys = some Y) (w : World),
    (Op.eqFields 9999 X.toArray Y.toArray fs).run P w = .ok r w
  | [], _, _, _, h, _, _, _, _, w => by simp [eqCells] at h; subst h; simp [Op.eqFields]
  | f :: fs, xs, ys, r, h, X, Y, hx, hy, w => by
    simp only [eqCells] at h
    split at h
    · cases h
    · rename_i hn
      have hn' : ¬ f.name = "_" := by simpa using hn
      split at h
      · rename_i a b ha hb
        obtain ⟨A, hA, hva⟩ := toVs_get hx ha
        obtain ⟨B, hB, hvb⟩ := toVs_get hy hb
        have step : ∀ (q : Bool), eqCell P f.type a b = some q → (part f.type X.toArray f.offset).run P w = .ok A w ∧ (part f.type Y.toArray f.offset).run P w = .ok B w ∧ (Op.equalIn 9999 f.type A B).run P w = .ok q w := by
          intro q hq
          have hag : (isAgg f.type).run P w = .ok false w := by
            unfold eqCell at hq
            split at hq <;> first
              | (cases hq; done)
              | (rename_i hu; simp [isAgg, run_underlying hu])
          exact ⟨by simp [part, hag, hA], by simp [part, hag, hB], eqCell_ok hq hva hvb 9997 w⟩
        split at h
        · rename_i hq
          obtain ⟨p1, p2, p3⟩ := step _ hq
          simp [Op.eqFields, hn', p1, p2, p3, eqCells_ok h hx hy w]
        · rename_i hq
          cases h
          obtain ⟨p1, p2, p3⟩ := step _ hq
          simp [Op.eqFields, hn', p1, p2, p3]
        · cases h
      · cases h

def eqHead : Value → Bool
  | .bool _ | .pointer _ | .slice .. | .map _ | .func .. | .nilFunc | .iface .. => true
  | _ => false

def eqRun (op : BinOp) (t : TypeId) (x y : Operand) (A B : Value) : Sem Value := do
  eqGuard op t x y A B
  binOp op t A B

theorem eqRun_head {t : TypeId} {A B : Value} {r : Bool} {w : World} (key : (Op.equalIn 10000 t A B).run P w = .ok r w)
    (hA : eqHead A = true ∨ (A = .nilIface ∧ eqHead B = true)) (x y : Operand) :
    (eqRun .eql t x y A B).run P w = .ok (.bool r) w ∧ (eqRun .neq t x y A B).run P w = .ok (.bool (!r)) w := by
  rcases hA with hA | ⟨rfl, hB⟩
  · cases A <;> first
      | (simp [eqHead] at hA; done)
      | (constructor <;> simp [eqRun, eqGuard, binOp, Op.equal, Op.maxDepth, key])
  · cases B <;> first
      | (simp [eqHead] at hB; done)
      | (constructor <;> simp [eqRun, eqGuard, binOp, Op.equal, Op.maxDepth, key])

theorem head_ptr {a : Option (Nat × Nat)} {V : Value} (h : (AV.ptr a).toV env ρ = some V) : eqHead V = true := by
  cases a with
  | none => simp [AV.toV] at h; subst h; rfl
  | some a => simp only [AV.toV] at h; split at h <;> cases h; rfl
theorem head_slice {a : Option (Nat × Nat)} {l c : Nat} {op : Bool} {V : Value} (h : (AV.slice a l c op).toV env ρ = some V) : eqHead V = true := by
  cases a with
  | none => simp only [AV.toV] at h; split at h <;> cases h; rfl
  | some a => simp only [AV.toV] at h; split at h <;> cases h; rfl
theorem head_map {a : Option Nat} {V : Value} (h : (AV.map a).toV env ρ = some V) : eqHead V = true := by
  cases a with
  | none => simp [AV.toV] at h; subst h; rfl
  | some a => simp only [AV.toV] at h; split at h <;> cases h; rfl
theorem head_func {fn : Fn} {a b : List AV} {V : Value} (h : (AV.func fn a b).toV env ρ = some V) : eqHead V = true := by
  simp only [AV.toV] at h; split at h <;> cases h; rfl
theorem head_iface {t : TypeId} {v : AV} {V : Value} (h : (AV.iface t v).toV env ρ = some V) : eqHead V = true := by
  simp only [AV.toV] at h; split at h <;> cases h; rfl
theorem head_bool {b : Bool} {V : Value} (h : (AV.bool b).toV env ρ = some V) : eqHead V = true := by simp [AV.toV] at h; subst h; rfl
theorem head_nilFunc {V : Value} (h : AV.nilFunc.toV env ρ = some V) : eqHead V = true := by simp [AV.toV] at h; subst h; rfl
theorem is_nilIface {V : Value} (h : AV.nilIface.toV env ρ = some V) : V = .nilIface := by simp [AV.toV] at h; exact h.symm

set_option maxHeartbeats 1000000 in
theorem eqCell_run {t : TypeId} {a b : AV} {r : Bool} (h : eqCell P t a b = some r) (hi : ∀ k n k' m, ¬ (a = .int k n ∧ b = .int k' m)) (hs : ∀ s u, ¬ (a = .str s ∧ b = .str u)) (hc : ∀ l, a ≠ .scat l)
    {A B : Value} (ha : a.toV env ρ = some A) (hb : b.toV env ρ = some B) (x y : Operand) (w : World) :
    (eqRun .eql t x y A B).run P w = .ok (.bool r) w ∧ (eqRun .neq t x y A B).run P w = .ok (.bool (!r)) w := by
  refine eqRun_head (eqCell_ok h ha hb 9998 w) ?_ x y
  unfold eqCell at h
  split at h <;> first
    | (cases h; done)
    | exact .inl (head_bool ha)
    | exact absurd ⟨rfl, rfl⟩ (hi _ _ _ _)
    | exact absurd ⟨rfl, rfl⟩ (hs _ _)
    | exact absurd rfl (hc _)
    | exact .inl (head_ptr ha)
    | exact .inl (head_slice ha)
    | exact .inl (head_map ha)
    | exact .inl (head_nilFunc ha)
    | exact .inl (head_func ha)
    | exact .inl (head_iface ha)
    | exact .inr ⟨is_nilIface ha, head_iface hb⟩

theorem eqA_ok {t : TypeId} {x y : Operand} {a b : AV} {r : Bool} (h : eqA P t x y a b = some r) (hi : ∀ k n k' m, ¬ (a = .int k n ∧ b = .int k' m)) (hs : ∀ s u, ¬ (a = .str s ∧ b = .str u))
    {A B : Value} (ha : a.toV env ρ = some A) (hb : b.toV env ρ = some B) (w : World) :
    (eqRun .eql t x y A B).run P w = .ok (.bool r) w ∧ (eqRun .neq t x y A B).run P w = .ok (.bool (!r)) w := by
  unfold eqA at h
  split at h
  · rename_i xs ys
    split at h
    · rename_i fs hu
      split at h
      · cases h
      · rename_i hg
        simp only [Bool.or_eq_true, not_or, Bool.not_eq_true] at hg
        simp only [AV.toV] at ha hb
        split at ha
        · rename_i X hX
          split at hb
          · rename_i Y hY
            cases ha; cases hb
            have hf : P.underlying t = some (.struct (P.fieldsOf t)) ∧ P.fieldsOf t = fs := by simp [Program.fieldsOf, hu]
            have key : (Op.equalIn 10000 t (.agg X.toArray) (.agg Y.toArray)).run P w = .ok r w := by
              rw [run_equalIn_struct w 9999 t _ _ hf.1 hg.2, hf.2]
              exact eqCells_ok h hX hY w
            constructor
            · simp only [eqRun, Sem.run_bind, run_eqGuard_agg w .eql t x y _ _ hg.1, Result.andThen_ok, run_eql_struct, key]
            · simp only [eqRun, Sem.run_bind, run_eqGuard_agg w .neq t x y _ _ hg.1, Result.andThen_ok, run_neq_struct, key]
          · cases hb
        · cases ha
    · cases h
  · split at h
    · rename_i hc
      split at h
      · rename_i ms hu
        cases h
        simp only [AV.toV] at ha hb; cases ha; cases hb
        have g : ∀ op w, (eqGuard op t x y .nilIface .nilIface).run P w = .ok () w := by
          intro op w
          cases op <;> cases x <;> cases y <;> simp [isConst] at hc <;> simp [eqGuard]
        have key : (Op.equalIn 10000 t .nilIface .nilIface).run P w = .ok true w := by
          unfold Op.equalIn
          simp only [Sem.run_bind, run_underlying hu, Result.andThen_ok, Sem.run_pure]
        constructor <;> simp [eqRun, g, binOp, Op.equal, Op.maxDepth, key]
      · cases h
    · cases h
  · cases h
  · rename_i h1 h2 h3
    exact eqCell_run h hi hs (fun l e => by first | exact h1 l e | exact h2 l e | exact h3 l e) ha hb x y w

theorem eqRun_other {op : BinOp} (h1 : op ≠ .eql) (h2 : op ≠ .neq) (t : TypeId) (x y : Operand) (A B : Value) (w : World) :
    (eqRun op t x y A B).run P w = (binOp op t A B).run P w := by
  cases op <;> first
    | exact absurd rfl h1
    | exact absurd rfl h2
    | simp [eqRun, eqGuard]

theorem eqRun_int {op : BinOp} {k k' : IntKind} {n m : Int} (t : TypeId) (x y : Operand) (w : World) :
    (eqRun op t x y (.int k n) (.int k' m)).run P w = (binOp op t (.int k n) (.int k' m)).run P w := by
  cases op <;> simp [eqRun, eqGuard]

theorem eqRun_str {op : BinOp} {a b : ByteArray} (t : TypeId) (x y : Operand) (w : World) :
    (eqRun op t x y (.string a) (.string b)).run P w = (binOp op t (.string a) (.string b)).run P w := by
  cases op <;> simp [eqRun, eqGuard]

theorem binA_ok {op : BinOp} {t : TypeId} {x y : Operand} {a b v : AV} (h : binA P op t x y a b = some v) {A B : Value} (ha : a.toV env ρ = some A) (hb : b.toV env ρ = some B) :
    ∃ V, v.toV env ρ = some V ∧ ∀ w, (eqRun op t x y A B).run P w = .ok V w := by
  unfold binA at h
  split at h
  · rename_i k n k' m
    simp only [AV.toV] at ha hb; cases ha; cases hb
    split at h
    · obtain ⟨V, hV, hr⟩ := shiftA_ok (P := P) (env := env) (ρ := ρ) (k' := k') h t default
      refine ⟨V, hV, fun w => ?_⟩
      obtain ⟨V', hV', hr'⟩ := shiftA_ok (P := P) (env := env) (ρ := ρ) (k' := k') h t w
      rw [hV] at hV'; cases hV'
      rw [eqRun_int]; exact hr'
    · obtain ⟨V, hV, hr⟩ := shiftA_ok (P := P) (env := env) (ρ := ρ) (k' := k') h t default
      refine ⟨V, hV, fun w => ?_⟩
      obtain ⟨V', hV', hr'⟩ := shiftA_ok (P := P) (env := env) (ρ := ρ) (k' := k') h t w
      rw [hV] at hV'; cases hV'
      rw [eqRun_int]; exact hr'
    · split at h
      · rename_i hk; subst hk
        obtain ⟨V, hV, hr⟩ := intA_ok (P := P) (env := env) (ρ := ρ) h t default
        refine ⟨V, hV, fun w => ?_⟩
        obtain ⟨V', hV', hr'⟩ := intA_ok (P := P) (env := env) (ρ := ρ) h t w
        rw [hV] at hV'; cases hV'
        rw [eqRun_int]; exact hr'
      · cases h
  · simp only [AV.toV] at ha hb; cases ha; cases hb
    obtain ⟨V, hV, hr⟩ := strA_ok (P := P) (env := env) (ρ := ρ) h t default
    refine ⟨V, hV, fun w => ?_⟩
    obtain ⟨V', hV', hr'⟩ := strA_ok (P := P) (env := env) (ρ := ρ) h t w
    rw [hV] at hV'; cases hV'
    rw [eqRun_str]; exact hr'
  · rename_i h1 h2
    split at h
    · split at h
      · rename_i r hr; cases h
        exact ⟨_, rfl, fun w => (eqA_ok hr (fun k n k' m e => h1 k n k' m e.1 e.2) (fun s u e => h2 s u e.1 e.2) ha hb w).1⟩
      · cases h
    · split at h
      · rename_i r hr; cases h
        exact ⟨_, rfl, fun w => (eqA_ok hr (fun k n k' m e => h1 k n k' m e.1 e.2) (fun s u e => h2 s u e.1 e.2) ha hb w).2⟩
      · cases h
    · cases h

theorem unA_ok {op : UnOp} {a v : AV} (h : unA op a = some v) {A : Value} (ha : a.toV env ρ = some A) : ∃ V, v.toV env ρ = some V ∧ ∀ w, (Op.unary op A).run P w = .ok V w := by
  unfold unA at h
  split at h
  · simp only [AV.toV] at ha; cases ha
    split at h
    · cases h; exact ⟨_, rfl, fun w => by simp [Op.unary, Op.intArith, wrapA_eq]⟩
    · simp only [intA] at h; cases h; exact ⟨_, rfl, fun w => by simp [Op.unary, Op.intBits]⟩
    · cases h
  · simp only [AV.toV] at ha; cases ha
    split at h
    · cases h; exact ⟨_, rfl, fun w => by simp [Op.unary]⟩
    · cases h
  · cases h
end
end Go.Rx
