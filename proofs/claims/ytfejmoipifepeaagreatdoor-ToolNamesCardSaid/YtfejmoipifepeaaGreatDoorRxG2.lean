/- The executor is right: operations and regions in the text's order. -/
import Derived.Test.YtfejmoipifepeaaGreatDoorRxG1
import Derived.Test.YtfejmoipifepeaaGreatDoorRxS
set_option linter.unusedSimpArgs false
set_option linter.unusedVariables false
set_option linter.unusedSectionVars false
namespace Go.Rx

structure EOk (P : Program) (env : Env) (G : Cfg) : Prop where
  sz : SzOk P env
  sym : SymOk env G

def GOk (G : Cfg) (ρ : Ren) : Prop := ∀ g, g < G.G → ∃ e, ρ g = some ⟨g, 0, e⟩

theorem GOk.mono {G : Cfg} {ρ ρ' : Ren} (h : GOk G ρ) (hl : Ren.Le ρ ρ') : GOk G ρ' := fun g hg => let ⟨e, he⟩ := h g hg; ⟨e, hl _ _ he⟩

def Fresh (ρ : Ren) (n n' : Nat) : Prop := ∀ i, n ≤ i → i < n' → ρ i = none

structure SRel (env : Env) (G : Cfg) (nt : Nat) (ρ : Ren) (st : St) (a : Act) (w : World) : Prop where
  rep : Rep env ρ st.heap.get w
  tmps : ∀ t v, st.tmps.get t = some v → v.toV env ρ = some (a.tmps.getD t undef)
  size : a.tmps.size = nt
  defers : a.defers = []
  glob : GOk G ρ

/- What is known behind a call. -/
def CallPost (env : Env) (ρ : Ren) (h : T AObj) (n : Nat) (v : AV) (h' : T AObj) (n' : Nat) (w : World) (V : Value) (w' : World) : Prop :=
  ∃ ρ', v.toV env ρ' = some V ∧ Rep env ρ' h'.get w' ∧ Grows ρ h.get n w ρ' h'.get n' w'

def CallOk (P : Program) (env : Env) (G : Cfg) (call : CallFn) : Prop :=
  ∀ f args h n v h' n', call f args h n = some (v, h', n') → ∀ ρ w vals, Rep env ρ h.get w → GOk G ρ → toVs env ρ args = some vals → Fresh ρ n n' →
    ((callFunc f vals.toArray).run P w = .ok (.enter f vals.toArray) w ∧ Calls P f vals.toArray w (fun e w' => ∃ V, e = .returned V ∧ CallPost env ρ h n v h' n' w V w')) ∨
    (∃ V w', (callFunc f vals.toArray).run P w = .ok (.value V) w' ∧ CallPost env ρ h n v h' n' w V w')

section
variable {P : Program} {env : Env} {ρ : Ren} {G : Cfg} {nt : Nat} {call : CallFn} {o : Oper} {st st' : St} {a : Act} {w : World}

theorem ev_ok1 (hg : GOk G ρ) {τ : T AV} (x : Operand) (ht : ∀ t v, x = .tmp t → τ.get t = some v → v.toV env ρ = some (a.tmps.getD t undef)) (v : AV) (h : opd G τ x = some v) : v.toV env ρ = some (a.eval x) := by
  cases x with
  | tmp t => exact ht t v rfl h
  | const c => exact ofV_ok h
  | global g =>
    simp only [opd] at h
    split at h
    · rename_i hlt; cases h
      obtain ⟨e, he⟩ := hg g hlt
      simp [AV.toV, he, Act.eval]
    · cases h
  | func f => simp only [opd] at h; cases h; simp [AV.toV, toVs, Act.eval]

theorem ev_ok (hg : GOk G ρ) {τ : T AV} (ht : ∀ t v, τ.get t = some v → v.toV env ρ = some (a.tmps.getD t undef)) (x : Operand) (v : AV) (h : opd G τ x = some v) : v.toV env ρ = some (a.eval x) :=
  ev_ok1 hg x (fun t v _ => ht t v) v h

theorem put_ok {τ τ' : T AV} {dst : Option Tmp} {v : AV} {V : Value} (h : putA nt τ dst v = some τ') (hs : a.tmps.size = nt) (ht : ∀ t v, τ.get t = some v → v.toV env ρ = some (a.tmps.getD t undef)) (hv : v.toV env ρ = some V) :
    (∀ t v, τ'.get t = some v → v.toV env ρ = some ((a.put dst V).tmps.getD t undef)) ∧ (a.put dst V).tmps.size = nt ∧ (a.put dst V).defers = a.defers := by
  unfold putA at h
  cases dst with
  | none => cases h; exact ⟨ht, hs, rfl⟩
  | some d =>
    simp only at h
    split at h
    · rename_i hlt
      have hlt : d < nt := by simpa [Nat.blt_eq] using hlt
      refine ⟨fun t u hu => ?_, by simp [Act.put, hs], rfl⟩
      rw [T.get_put _ _ _ _ _ h] at hu
      split at hu
      · rename_i e; subst e
        cases hu
        have : (a.put (some t) V).tmps.getD t undef = V := by
          simp [Act.put, Array.getD_eq_getD_getElem?, hs, hlt]
        rw [this]; exact hv
      · rename_i hne
        have : (a.put (some d) V).tmps.getD t undef = a.tmps.getD t undef := by
          simp [Act.put, Array.getD_eq_getD_getElem?, Array.getElem?_setIfInBounds_ne (fun e => hne e.symm)]
        rw [this]; exact ht t u hu
    · cases h

theorem typedB_src {op : Op} (h : typedB P op = true) : srcOk P op := by
  cases op <;> simp only [srcOk, typedB] at h ⊢
  exact Option.isSome_iff_exists.1 h

theorem typedB_typed {op : Op} (h : typedB P op = true) : typed P op := by
  cases op <;> simp only [typed, typedB] at h ⊢
  · exact Option.isSome_iff_exists.1 h
  · intro ty hty
    rw [hty] at h
    exact Option.isSome_iff_exists.1 h

/- What an operation does on abstract values, whichever kind it is: as a step of the world. -/
def StepsTo (P : Program) (env : Env) (ρ : Ren) (f : Operand → Value) (o : Oper) (h : HF) (n : Nat) (v : AV) (h' : HF) (n' : Nat) (w : World) : Prop :=
  Turns P env ρ f o h n v h' n' w ∨
  (∃ g vals, (execOp f o).run P w = .ok (.enter g vals) w ∧ Calls P g vals w (fun e w' => ∃ V, e = .returned V ∧ ∃ ρ', v.toV env ρ' = some V ∧ Rep env ρ' h' w' ∧ Grows ρ h n w ρ' h' n' w'))

theorem StepsTo.wp {v : AV} {h h' : HF} {n n' : Nat} (s : StepsTo P env ρ a.eval o h n v h' n' w) {next : Act → World → Prop} {Q : Exit → Act → World → Prop}
    (hn : ∀ V ρ' w', v.toV env ρ' = some V → Rep env ρ' h' w' → Grows ρ h n w ρ' h' n' w' → next (a.put o.dst V) w') : o.wp P a w next Q := by
  unfold Oper.wp
  rcases s with ⟨V, ρ', w', hr, hv, hrep, hg⟩ | ⟨g, vals, hr, hc⟩
  · rcases hr with hr | ⟨hr, hu⟩
    · rw [hr]; exact hn V ρ' w' hv hrep hg
    · rw [hr]; rw [hu] at hv; exact hn undef ρ' w' hv hrep hg
  · rw [hr]
    refine hc.mono fun e w' ⟨V, he, ρ', hv, hrep, hg⟩ => ?_
    subst he
    exact hn V ρ' w' hv hrep hg

theorem Turns.of_reads {f : Operand → Value} {v : AV} {h : HF} {n : Nat} (rd : Reads P env ρ f o v w) (r : Rep env ρ h w) : Turns P env ρ f o h n v h n w := by
  obtain ⟨V, hV, hr⟩ := rd
  exact ⟨V, ρ, w, .inl hr, hV, r, .refl _ _ _ _⟩

theorem evalCall_ok' (hcall : CallOk P env G call) {τ : T AV} {hp0 : T AObj} {n0 : Nat} {f : Operand → Value} (hrep : Rep env ρ hp0.get w) (hg : GOk G ρ) (hev : EvOk env ρ (opd G τ) f o.op.operands) {v : AV} {hp : T AObj} {n : Nat}
    (h : evalCall P G call o.op ⟨τ, hp0, n0⟩ = some (v, hp, n)) (hf : Fresh ρ n0 n) :
    StepsTo P env ρ f o hp0.get n0 v hp.get n w := by
  generalize ho : o.op = op at *
  unfold evalCall at h
  split at h
  · rename_i c
    split at h
    · rename_i g args hcl
      obtain ⟨vals, hvals, hrun⟩ := calleeA_ok (o := o) hcl hev ho
      rcases hcall _ _ _ _ _ _ _ h ρ w vals hrep hg hvals hf with ⟨h1, h2⟩ | ⟨V, w', h1, h2⟩
      · exact .inr ⟨g, vals.toArray, by rw [hrun, h1], h2⟩
      · obtain ⟨ρ', hv, hrep, hg⟩ := h2
        exact .inl ⟨V, ρ', w', .inl (by rw [hrun, h1]), hv, hrep, hg⟩
    · cases h
  · cases h

theorem evalCall_ok (hcall : CallOk P env G call) (hr : SRel env G nt ρ st a w) {v : AV} {hp : T AObj} {n : Nat} (h : evalCall P G call o.op st = some (v, hp, n)) (hf : Fresh ρ st.next n) :
    StepsTo P env ρ a.eval o st.heap.get st.next v hp.get n w :=
  evalCall_ok' hcall (τ := st.tmps) hr.rep hr.glob (fun x _ v hv => ev_ok hr.glob hr.tmps x v hv) h hf

theorem evalO_ok (hE : EOk P env G) (hcall : CallOk P env G call) (hr : SRel env G nt ρ st a w) (h : evalO P G call nt o st = some st') (hty : typedB P o.op = true) (hf : Fresh ρ st.next st'.next)
    {next : Act → World → Prop} {Q : Exit → Act → World → Prop}
    (hn : ∀ ρ' a' w', SRel env G nt ρ' st' a' w' → Grows ρ st.heap.get st.next w ρ' st'.heap.get st'.next w' → next a' w') : o.wp P a w next Q := by
  have hev : ∀ xs, EvOk env ρ (opd G st.tmps) a.eval xs := fun xs x _ v hv => ev_ok hr.glob hr.tmps x v hv
  have fin : ∀ {v : AV} {hp : T AObj} {n : Nat}, StepsTo P env ρ a.eval o st.heap.get st.next v hp.get n w → st'.heap = hp → st'.next = n → putA nt st.tmps o.dst v = some st'.tmps → o.wp P a w next Q := by
    intro v hp n s e1 e2 hput
    subst e1; subst e2
    refine s.wp fun V ρ' w' hv hrep hg => hn ρ' _ w' ?_ hg
    obtain ⟨p1, p2, p3⟩ := put_ok (ρ := ρ') hput hr.size (fun t u hu => AV.toV_mono hg.le _ _ (hr.tmps t u hu)) hv
    exact ⟨hrep, p1, p2, by rw [p3]; exact hr.defers, hr.glob.mono hg.le⟩
  unfold evalO at h
  split at h
  · obtain ⟨v, hv, e1, e2, hput⟩ := finV_next h
    obtain ⟨V, hV, hrun⟩ := evalPS_ok hE.sym hv (hev _) (typedB_src hty)
    refine fin (hp := st.heap) (n := st.next) (.inl (Turns.of_reads ⟨V, hV, hrun w⟩ hr.rep)) e2 e1 hput
  · obtain ⟨v, hv, e1, e2, hput⟩ := finV_next h
    exact fin (hp := st.heap) (n := st.next) (.inl (Turns.of_reads (evalR_ok hr.rep hv (hev _)) hr.rep)) e2 e1 hput
  · obtain ⟨v, x, hv, e1, e2, hput⟩ := finA_next h
    have hn' : ρ st.next = none := hf _ (Nat.le_refl _) (by omega)
    obtain ⟨V, ρ', w', h1, h2, h3, h4⟩ := (evalA_ok hE.sz hv (hev _) hn' (w := w)).rep hr.rep hn'
    rw [← HF.get_put e2] at h3 h4
    exact fin (.inl ⟨V, ρ', w', .inl h1, h2, h3, h4⟩) rfl e1 hput
  · obtain ⟨v, hp, n, hv, e1, e2, hput⟩ := finW_next h
    subst e1; subst e2
    exact fin (.inl (evalW_ok hE.sz hr.rep hv (hev _) (typedB_typed hty) (fun hlt => hf _ (Nat.le_refl _) hlt))) rfl rfl hput
  · obtain ⟨v, hp, n, hv, e1, e2, hput⟩ := finW_next h
    subst e1; subst e2
    exact fin (evalCall_ok hcall hr hv hf) rfl rfl hput

theorem yieldA_ok {ops : Array Oper} {τ : T AV} {j : Nat} {r : Option Bool} (ht : ∀ d p v, ops[j]? = some p → p.dst = some d → τ.get d = some v → v.toV env ρ = some (a.tmps.getD d undef)) (h : yieldA ops τ j = some r) : yielded ops a.tmps j = r := by
  unfold yieldA at h
  unfold yielded
  cases hop : ops[j]? with
  | none => simp only [hop] at h; cases h; rfl
  | some p =>
    simp only [hop] at h
    cases hd : p.dst with
    | none => simp only [hd] at h; cases h; simp [hd]
    | some d =>
      simp only [hd] at h
      split at h
      · rename_i b hv
        cases h
        have := ht d p _ hop hd hv
        simp only [AV.toV] at this
        have e := Option.some.inj this
        cases hq : a.tmps[d]? with
        | none => simp [Array.getD_eq_getD_getElem?, hq, undef] at e
        | some q => simp [Array.getD_eq_getD_getElem?, hq] at e; simp [hd, hq, ← e]
      · rename_i hv
        cases h
        have := ht d p _ hop hd hv
        simp only [AV.toV, toVs] at this
        have e := Option.some.inj this
        cases hq : a.tmps[d]? with
        | none => simp [hd, hq]
        | some q => simp [Array.getD_eq_getD_getElem?, hq] at e; simp [hd, hq, ← e]
      · cases h

theorem wantedA_ok {ops : Array Oper} {τ : T AV} {b : Bool} (ht : ∀ j want d p v, o.guard = some (j, want) → ops[j]? = some p → p.dst = some d → τ.get d = some v → v.toV env ρ = some (a.tmps.getD d undef)) (h : wantedA ops τ o = some b) :
    Region.wanted o (yielded ops a.tmps) = b := by
  unfold wantedA at h
  unfold Region.wanted
  cases hg : o.guard with
  | none => simp only [hg] at h; cases h; rfl
  | some jw =>
    obtain ⟨j, want⟩ := jw
    simp only [hg] at h
    split at h
    · rename_i y hy
      cases h
      simp only [yieldA_ok (fun d p v h1 h2 h3 => ht j want d p v hg h1 h2 h3) hy]
      cases y <;> cases want <;> rfl
    · rename_i hy
      cases h
      simp only [yieldA_ok (fun d p v h1 h2 h3 => ht j want d p v hg h1 h2 h3) hy]
      cases want <;> rfl
    · cases h

theorem wanted_ok {ops : Array Oper} {b : Bool} (hr : SRel env G nt ρ st a w) (h : wantedA ops st.tmps o = some b) : Region.wanted o (yielded ops a.tmps) = b :=
  wantedA_ok (fun _ _ d _ v _ _ _ hv => hr.tmps d v hv) h

theorem skip_rel (hr : SRel env G nt ρ st a w) {τ : T AV} (h : putA nt st.tmps o.dst (.tuple []) = some τ) : SRel env G nt ρ { st with tmps := τ } (a.put o.dst undef) w := by
  obtain ⟨p1, p2, p3⟩ := put_ok (V := undef) h hr.size hr.tmps (by simp [AV.toV, toVs, undef])
  exact ⟨hr.rep, p1, p2, by rw [p3]; exact hr.defers, hr.glob⟩

theorem evalOs_ok (hE : EOk P env G) (hmono : MonoCall call) (hcall : CallOk P env G call) {ops : Array Oper} {Q : Exit → Act → World → Prop} : ∀ (l : List Oper) (st : St) (ρ : Ren) (a : Act) (w : World), SRel env G nt ρ st a w →
    (∀ o ∈ l, typedB P o.op = true) → evalOs P G call nt ops l st = some st' → Fresh ρ st.next st'.next →
    (∀ ρ' a' w', SRel env G nt ρ' st' a' w' → Grows ρ st.heap.get st.next w ρ' st'.heap.get st'.next w' → Q .normal a' w') → wpList P ops Q l a w
  | [], st, ρ, a, w, hr, _, h, hf, hq => by
    simp [evalOs] at h; subst h
    exact hq ρ a w hr (.refl _ _ _ _)
  | o :: l, st, ρ, a, w, hr, hty, h, hf, hq => by
    simp only [evalOs] at h
    unfold wpList
    split at h
    · rename_i hw
      rw [if_pos (wanted_ok hr hw)]
      split at h
      · rename_i st1 h1
        have m1 := evalO_mono hmono h1
        have m2 := evalOs_mono hmono h
        refine .inl (evalO_ok hE hcall hr h1 (hty o (by simp)) (fun i hi hlt => hf i hi (by omega)) fun ρ' a' w' hr' hg => ?_)
        refine evalOs_ok hE hmono hcall l st1 ρ' a' w' hr' (fun p hp => hty p (by simp [hp])) h (fun i hi hlt => ?_) fun ρ'' a'' w'' hr'' hg' => hq _ _ _ hr'' (hg.trans hg')
        rw [hg.same i (by omega)]
        exact hf i (by omega) hlt
      · cases h
    · rename_i hw
      rw [if_neg (by rw [wanted_ok hr hw]; simp)]
      split at h
      · rename_i τ hτ
        exact evalOs_ok hE hmono hcall l { st with tmps := τ } ρ _ w (skip_rel hr hτ) (fun p hp => hty p (by simp [hp])) h hf hq
      · cases h
    · cases h
end
end Go.Rx
