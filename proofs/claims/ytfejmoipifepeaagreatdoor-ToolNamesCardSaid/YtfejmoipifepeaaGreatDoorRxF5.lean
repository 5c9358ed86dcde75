/- The executor is right: append and copy; all operations that turn memory. -/
import Derived.Test.YtfejmoipifepeaaGreatDoorRxF4
set_option linter.unusedSimpArgs false
set_option linter.unusedVariables false
set_option linter.unusedSectionVars false
namespace Go.Rx
open Go.Builtin (lenOf firstCells zeroCells nextslicecap growBy)
section
variable {P : Program} {env : Env} {ρ : Ren} {ev : Ev} {f : Operand → Value} {o : Oper} {t t' : T AObj} {w : World} {n n' : Nat}

/- A name let go. -/
theorem rep_kill {h : HF} (r : Rep env ρ h w) (id n : Nat) (hnr : ∀ l, h id ≠ some (.rom l)) : Rep env ρ (h.up id none) w ∧ Grows ρ h n w ρ (h.up id none) n w := by
  have hs : ∀ i o, (h.up id none) i = some o → h i = some o := fun i o hi => by
    unfold HF.up at hi; split at hi
    · cases hi
    · exact hi
  exact ⟨r.sub hs, .refl _, fun _ _ => rfl, Nat.le_refl _, fun _ _ _ => rfl, Nat.le_refl _, fun b ⟨i, o, p, hi, hp, hb⟩ => .inl ⟨i, o, p, hs i o hi, hp, hb⟩, fun i o hi => .inl ⟨o, hs i o hi⟩, rfl, rfl, rfl, fun i l p hi _ => ⟨rfl, by
    have : i ≠ id := fun e => hnr l (e ▸ hi)
    simp [HF.up, this, hi]⟩⟩

/- An object goes on under another name, in its block. -/
theorem rep_move {h : HF} {w' : World} {id : Nat} {o₁ o₂ : AObj} {p p' : Place} {x : Obj} (r : Rep env ρ h w) (hi : h id = some o₁) (hp : ρ id = some p) (hn : ρ n = none) (hpb : p'.block = p.block)
    (hx : w'.heap[p.block]? = some x) (ho : ORel env (ρ.ext n p') p' o₂ x) (hk : ∀ b, b ≠ p.block → w'.heap[b]? = w.heap[b]?) (hsz : w'.heap.size = w.heap.size)
    (hos : w'.os = w.os) (htape : w'.tape = w.tape) (hout : w'.output = w.output) (hnr : ∀ l, o₁ ≠ .rom l := by intro l e; cases e) :
    Rep env (ρ.ext n p') ((h.up id none).up n (some o₂)) w' ∧ Grows ρ h n w (ρ.ext n p') ((h.up id none).up n (some o₂)) (n + 1) w' := by
  have hle : Ren.Le ρ (ρ.ext n p') := Ren.le_ext hn
  have hne : ∀ i o', h i = some o' → i ≠ n := fun i o' hi e => by
    subst e; obtain ⟨q, _, hq, _⟩ := r.obj _ _ hi; rw [hn] at hq; cases hq
  have hext : ∀ i, i ≠ n → (ρ.ext n p') i = ρ i := fun i hi => by simp [Ren.ext, hi]
  have old : ∀ i o', i ≠ n → ((h.up id none).up n (some o₂)) i = some o' → h i = some o' ∧ i ≠ id := fun i o' hin hi => by
    simp only [HF.up, hin, if_false] at hi
    split at hi
    · cases hi
    · rename_i hid; exact ⟨hi, hid⟩
  refine ⟨⟨fun i o' hi' => ?_, fun i j p₁ q₁ o₃ o₄ hi' hj' hpi hqj e => ?_⟩, hle, fun i hi => hext i (by omega), by omega, fun b hb hnb => ?_, by omega, fun b hb => ?_, fun i o' hi' => ?_, hos, htape, hout, fun i l q hi' hq => by
    have h1 : i ≠ id := fun e => by subst e; rw [hi] at hi'; cases hi'; exact hnr l rfl
    exact ⟨hk _ (fun e => h1 (r.inj i id q p _ o₁ hi' hi hq hp e)), by simp [HF.up, h1, hne i _ hi', hi']⟩⟩
  · by_cases e : i = n
    · subst e
      simp [HF.up] at hi'; subst hi'
      exact ⟨p', x, Ren.ext_self _ _ _, by rw [hpb]; exact hx, ho⟩
    · obtain ⟨h1, h2⟩ := old i o' e hi'
      obtain ⟨q, y, hq, hy, hor⟩ := r.obj i o' h1
      refine ⟨q, y, by rw [hext i e]; exact hq, ?_, hor.mono hle⟩
      rw [hk q.block (fun e2 => h2 (r.inj i id q p o' o₁ h1 hi hq hp e2))]; exact hy
  · by_cases ei : i = n
    · by_cases ej : j = n
      · rw [ei, ej]
      · subst ei
        rw [Ren.ext_self] at hpi; cases hpi
        obtain ⟨h1, h2⟩ := old j o₄ ej hj'
        rw [hext j ej] at hqj
        exact absurd (r.inj j id q₁ p o₄ o₁ h1 hi hqj hp (by rw [← e, hpb])) h2
    · by_cases ej : j = n
      · subst ej
        rw [Ren.ext_self] at hqj; cases hqj
        obtain ⟨h1, h2⟩ := old i o₃ ei hi'
        rw [hext i ei] at hpi
        exact absurd (r.inj i id p₁ p o₃ o₁ h1 hi hpi hp (by rw [e, hpb])) h2
      · obtain ⟨h1, _⟩ := old i o₃ ei hi'
        obtain ⟨h2, _⟩ := old j o₄ ej hj'
        rw [hext i ei] at hpi; rw [hext j ej] at hqj
        exact r.inj i j p₁ q₁ o₃ o₄ h1 h2 hpi hqj e
  · exact hk b (fun e => hnb ⟨id, o₁, p, hi, hp, e.symm⟩)
  · obtain ⟨i, o', q, hi', hq, rfl⟩ := hb
    by_cases e : i = n
    · subst e; rw [Ren.ext_self] at hq; cases hq; exact .inl ⟨id, o₁, p, hi, hp, hpb.symm⟩
    · rw [hext i e] at hq; exact .inl ⟨i, o', q, (old i o' e hi').1, hq, rfl⟩
  · by_cases e : i = n
    · exact .inr (by omega)
    · exact .inl ⟨o', (old i o' e hi').1⟩

/- A new row behind a growth: the old cells, the new ones, and zeros. -/
theorem rep_grown {h : HF} (r : Rep env ρ h w) (hn : ρ n = none) {elem : TypeId} {vs : List AV} {xs : List Value} (hxs : toVs env ρ vs = some xs) {zs : Array Value} {extra : Nat} (hz : zs.size = extra * env.sz elem) :
    Rep env (ρ.ext n ⟨w.heap.size, 0, extra⟩) (h.up n (some (.cells (vs.map some) elem false))) (w.drew.alloc (.cells (xs.toArray ++ zs) elem)) ∧
      Grows ρ h n w (ρ.ext n ⟨w.heap.size, 0, extra⟩) (h.up n (some (.cells (vs.map some) elem false))) (n + 1) (w.drew.alloc (.cells (xs.toArray ++ zs) elem)) := by
  refine rep_new (x := .cells (xs.toArray ++ zs) elem) r hn (by simp) (fun b hb => Go.RowKit.Below.heap_alloc _ _ _ (by simpa using hb)) ?_ rfl rfl rfl rfl ?_
  · show (w.heap.push _)[w.heap.size]? = _
    simp
  · refine ⟨_, 0, 0, rfl, ?_, fun i v hv => ?_, fun _ => .inl rfl⟩
    · simp [toVs_length hxs, hz]
    · have hi : vs[i]? = some v := by
        rw [List.getElem?_map] at hv
        cases hl : vs[i]? with
        | none => simp [hl] at hv
        | some u => simp [hl] at hv; rw [hv]
      obtain ⟨x, hx, hv'⟩ := toVs_get (exts_mono (p := ⟨w.heap.size, 0, extra⟩) hn hxs) hi
      refine ⟨x, hv', ?_⟩
      have hlt : i < xs.length := (List.getElem?_eq_some_iff.1 hx).1
      simp only [Nat.zero_add]
      rw [Array.getElem?_append_left (by simpa using hlt)]
      simpa using hx

theorem size_zeroCells (z : Array Value) (k : Nat) : (zeroCells z k).size = k * z.size := by simp [zeroCells]

theorem grownCap_ge (w : World) (need old : Nat) (e : TypeId) : need ≤ grownCap w need old e := by
  simp only [grownCap, Question.cut]; omega

theorem firstCells_row (r : Rep env ρ t.get w) {id : Nat} {l : List (Option AV)} {e : TypeId} {z : Bool} (hg : t.get id = some (.cells l e z)) {p : Place} (hp : ρ id = some p) {off len size : Nat} {vs : List AV}
    (hk : known ((l.drop off).take (len * size)) = some vs) (hl : vs.length = len * size) (cap : Nat) :
    ∃ xs, toVs env ρ vs = some xs ∧ (firstCells size len (.slice (some ⟨p.block, p.off + off, none⟩) len cap)).run P w = .ok xs.toArray w := by
  obtain ⟨xs, hxs, hc⟩ := row_cells r hg rfl hp hk
  refine ⟨xs, hxs, ?_⟩
  have := run_loadCells_list (P := P) w ⟨p.block, p.off + off, none⟩ xs hc
  rw [toVs_length hxs, hl] at this
  simp [firstCells, this]

theorem wAppend_ok (hE : SzOk P env) (r : Rep env ρ t.get w) {c : Call} {v : AV} (hc : c.callee = .builtin .append) (h : wAppend P ev t n c.argTypes c.args = some (v, t', n'))
    (hxt : ∀ ty, c.argTypes[1]? = some ty → ∃ d, P.underlying ty = some d) (hfresh : n < n' → ρ n = none)
    (hx : ∀ x ∈ c.args.toList, ∀ v, ev x = some v → v.toV env ρ = some (f x)) (ho : o.op = .call c) : Turns P env ρ f o t.get n v t'.get n' w := by
  unfold wAppend at h
  split at h
  · rename_i st x y ht ha
    have hargs : c.args.map f = #[f x, f y] := by apply Array.ext'; simp [ha]
    have fin : ∀ {V w'}, (∀ ty, (Builtin.append_ c.argTypes ty #[f x, f y]).run P w = .ok V w') → (execOp f o).run P w = .ok (.value V) w' := by
      intro V w' key
      simp [execOp, ho, resolve, hc, invoke, builtin, hargs, key]
    split at h
    · rename_i elem base len cap op u hst he hu
      have hX := hx x (by simp [ha]) _ he
      have hU := hx y (by simp [ha]) _ hu
      split at h
      · cases h
      · rename_i i hi
        split at h
        · cases h
        · rename_i k cs hap
          obtain ⟨xs, hxs, hlx, src⟩ := appendedA_ok r hap hi hxt hU
          have hlc := toVs_length hxs
          unfold appendA at h
          split at h
          · rename_i hfit
            have hfit := Nat.le_of_ble_eq_true hfit
            cases base with
            | none =>
              cases h
              obtain ⟨rfl, hX'⟩ := toV_slice_none hX
              refine ⟨.slice none (len + k) cap, ρ, w, .inl (fin fun ty => ?_), by simp [AV.toV], r, .refl _ _ _ _⟩
              rw [hX']
              exact run_append_fit ht hst hi hlx src hfit rfl
            | some a =>
              obtain ⟨id, off⟩ := a
              obtain ⟨p, hp, hX'⟩ := toV_slice hX
              simp only at h
              split at h
              · rename_i t₁ hw
                cases h
                obtain ⟨w', hr, hrep, hg⟩ := writeA_ok (P := P) r hw hp hxs n
                refine ⟨_, ρ, w', .inl (fin fun ty => ?_), toV_slice_mk hp, hrep, hg⟩
                rw [hX']
                refine run_append_fit ht hst hi hlx src (by split <;> omega) ?_
                simp only [Wrote, Addr.add_plain]
                rw [Nat.add_assoc]; exact hr
              · cases h
          · rename_i hnfit
            have hnfit : ¬ len + k ≤ cap := fun e => by rw [Nat.ble_eq_true_of_le e] at hnfit; cases hnfit
            split at h
            · rename_i hcond
              simp only [Bool.and_eq_true] at hcond
              have c1 := Nat.le_of_ble_eq_true hcond.1.1.1
              have c2 := Nat.le_of_ble_eq_true hcond.1.1.2
              have c3 := Nat.le_of_ble_eq_true hcond.1.2
              have c4 := hcond.2
              -- the zero value
              obtain ⟨Z, hz, hzs⟩ : ∃ Z, i.zero = some Z ∧ Z.cells.size = i.size := by
                unfold zeroFits at c4
                split at c4
                · rename_i z hz
                  obtain ⟨i', Z, hi', hiz, hZ⟩ := zeroA_ok (env := env) (ρ := ρ) hz
                  rw [hi] at hi'; cases hi'
                  have := toVs_length (cellsA_ok hZ)
                  have := Nat.eq_of_beq_eq_true c4
                  exact ⟨Z, hiz, by simp at *; omega⟩
                · cases c4
              have hsz := hE elem i hi
              have src1 : AppSrc P elem i c.argTypes[1]? (f y) k xs w.drew := by
                obtain ⟨xs', hxs', _, s'⟩ := appendedA_ok (P := P) (r.drawn (w.drawn + 1)) hap hi hxt hU
                rw [hxs] at hxs'; cases hxs'
                exact s'
              -- a new row
              have grown : ∀ {h : HF} {old : List AV} {olds : List Value} {A : Option Addr} {cap' : Nat}, Rep env ρ h w → ρ n = none → f x = .slice A len cap' → ¬ len + k ≤ cap' → toVs env ρ old = some olds → old.length = len * i.size →
                  (firstCells i.size len (.slice A len cap')).run P w.drew = .ok olds.toArray w.drew →
                  ∃ V ρ' w', RunsTo ((execOp f o).run P w) V w' ∧ (AV.slice (some (n, 0)) (len + k) (len + k) true).toV env ρ' = some V ∧ Rep env ρ' (h.up n (some (.cells ((old ++ cs).map some) elem false))) w' ∧ Grows ρ h n w ρ' (h.up n (some (.cells ((old ++ cs).map some) elem false))) (n + 1) w' := by
                intro h old olds A cap' rh hn hfx hng hold hol hfc
                have hge := grownCap_ge w (len + k) cap' elem
                obtain ⟨r', g'⟩ := rep_grown (extra := grownCap w (len + k) cap' elem - (len + k)) (zs := zeroCells Z.cells (grownCap w (len + k) cap' elem - (len + k))) rh hn (toVs_append hold hxs) (elem := elem) (by rw [size_zeroCells, hzs, hsz])
                have hrun := fun ty => run_append_grow (ty := ty) ht hst hi hz hlx src src1 hng c1 c2 hfc
                have hcells : (olds ++ xs).toArray ++ zeroCells Z.cells (grownCap w (len + k) cap' elem - (len + k)) = olds.toArray ++ (xs.toArray ++ zeroCells Z.cells (grownCap w (len + k) cap' elem - (len + k))) := by
                  apply Array.ext'
                  rw [Array.toList_append, Array.toList_append, Array.toList_append, List.append_assoc]
                rw [hcells] at r' g'
                refine ⟨_, _, _, .inl (fin fun ty => ?_), toV_slice_new _ _ _ _, r', g'⟩
                rw [hfx, hrun ty]
                have : len + k + (grownCap w (len + k) cap' elem - (len + k)) = grownCap w (len + k) cap' elem := by omega
                simp [this]
              unfold growA at h
              split at h
              · -- nothing before
                split at h
                · rename_i hl0
                  have hl0 := Nat.eq_of_beq_eq_true hl0
                  subst hl0
                  split at h
                  · rename_i t₁ hput
                    cases h
                    obtain ⟨rfl, hX'⟩ := toV_slice_none hX
                    obtain ⟨V, ρ', w', h1, h2, h3, h4⟩ := grown (old := []) (olds := []) r (hfresh (by omega)) hX' hnfit rfl (Nat.zero_mul _).symm rfl
                    simp only [List.nil_append] at h3 h4
                    rw [← HF.get_put hput] at h3 h4
                    exact ⟨V, ρ', w', h1, h2, h3, h4⟩
                  · cases h
                · cases h
              · rename_i id off
                obtain ⟨p, hp, hX'⟩ := toV_slice hX
                split at h
                · rename_i l e frz hg
                  split at h
                  · rename_i old hold
                    split at h
                    · -- a row whose capacity is known
                      rename_i hol
                      have hol := Nat.eq_of_beq_eq_true hol
                      split at h
                      · rename_i t₁ hput
                        cases h
                        simp only [Bool.false_eq_true, if_false] at hX'
                        obtain ⟨olds, hos, hfc⟩ := firstCells_row (P := P) (r.drawn (w.drawn + 1)) hg hp hold hol cap
                        obtain ⟨V, ρ', w', h1, h2, h3, h4⟩ := grown r (hfresh (by omega)) hX' hnfit hos hol hfc
                        rw [← HF.get_put hput] at h3 h4
                        exact ⟨V, ρ', w', h1, h2, h3, h4⟩
                      · cases h
                    · -- a row that may go on
                      rename_i hol
                      have hol := Nat.eq_of_beq_eq_true hol
                      split at h
                      · rename_i hcc
                        simp only [Bool.and_eq_true] at hcc
                        have d1 : frz = false := by simpa using hcc.1.1.1
                        have d2 := Nat.eq_of_beq_eq_true hcc.1.1.2
                        have d3 := Nat.eq_of_beq_eq_true hcc.1.2
                        have d4 := hcc.2
                        subst d1; subst d2
                        split at h
                        · rename_i t₁ hput1
                          split at h
                          · rename_i t₂ hput2
                            cases h
                            have hget : t'.get = HF.up (HF.up t.get id none) n (some (.cells ((old ++ cs).map some) e false)) := by
                              rw [HF.get_put hput2, HF.get_put hput1]
                            simp only [if_true] at hX'
                            obtain ⟨olds, hos, hfc⟩ := firstCells_row (P := P) (r.drawn (w.drawn + 1)) hg hp hold hol (cap + p.extra)
                            by_cases hroom : len + k ≤ cap + p.extra
                            · -- in its place
                              obtain ⟨q, ob, hq, hob, cc, lo, hi', rfl, hs, hcr, hf⟩ := r.obj _ _ hg
                              simp only at hp
                              rw [hp] at hq; cases hq
                              rw [hsz] at hs
                              have hmul : cap * i.size + p.extra * i.size = (cap + p.extra) * i.size := by rw [Nat.add_mul]
                              have hle : (len + k) * i.size ≤ (cap + p.extra) * i.size := Nat.mul_le_mul_right _ hroom
                              have hlk : (len + k) * i.size = len * i.size + k * i.size := by rw [Nat.add_mul]
                              have hsub : (cap + p.extra - (len + k)) * i.size = (cap + p.extra) * i.size - (len + k) * i.size := Nat.sub_mul _ _ _
                              have hst' := run_storeCells_free P p.block (p.off + off + len * i.size) e (lo, hi') xs 0 cc w hob (hf rfl) (by omega) (ones_ok d4 hxs)
                              simp only [Nat.add_zero] at hst'
                              have hn := hfresh (by omega)
                              obtain ⟨r', g'⟩ := rep_move (n := n) (o₂ := .cells ((old ++ cs).map some) e false) (p' := ⟨p.block, p.off + off, cap + p.extra - (len + k)⟩) r hg hp hn rfl (setRow_heap w p.block cc (cc.toList.take (p.off + off + len * i.size) ++ xs ++ cc.toList.drop (p.off + off + len * i.size + xs.length)).toArray e (lo, hi') hob)
                                (by
                                  refine ⟨_, lo, hi', rfl, ?_, fun j v hv => ?_, fun _ => ?_⟩
                                  · simp only [List.size_toArray, List.length_append, List.length_take, List.length_drop, Array.length_toList, List.length_map, hsz, hsub]
                                    omega
                                  · have hj : (old ++ cs)[j]? = some v := by
                                      rw [List.getElem?_map] at hv
                                      cases hl : (old ++ cs)[j]? with
                                      | none => simp [hl] at hv
                                      | some u => simp [hl] at hv; rw [hv]
                                    have hlo := toVs_length hos
                                    obtain ⟨X2, hX2, hv2⟩ := toVs_get (exts_mono (p := ⟨p.block, p.off + off, cap + p.extra - (len + k)⟩) hn (toVs_append hos hxs)) hj
                                    refine ⟨X2, hv2, ?_⟩
                                    simp only [List.getElem?_toArray]
                                    have e2 : min (p.off + off + len * i.size) cc.toList.length = p.off + off + len * i.size := by simp; omega
                                    simp only [List.getElem?_append, List.length_append, List.length_take, e2, List.getElem?_take, List.getElem?_drop] at hX2 ⊢
                                    by_cases hjl : j < olds.length
                                    · simp only [hjl, if_true] at hX2
                                      have g1 : p.off + off + j < p.off + off + len * i.size := by omega
                                      have g2 : p.off + off + j < p.off + off + len * i.size + xs.length := by omega
                                      simp only [g1, g2, if_true]
                                      -- an old cell
                                      obtain ⟨xs2, hxs2, hcells⟩ := row_cells r hg rfl hp hold
                                      rw [hos] at hxs2; cases hxs2
                                      have := hcells j X2 hX2
                                      rw [Addr.add_plain] at this
                                      simp [World.cell?, hob] at this
                                      simpa using this
                                    · simp only [hjl, if_false] at hX2
                                      have g3 : ¬ p.off + off + j < p.off + off + len * i.size := by omega
                                      have hjx : j - olds.length < xs.length := (List.getElem?_eq_some_iff.1 hX2).1
                                      have g2 : p.off + off + j < p.off + off + len * i.size + xs.length := by omega
                                      have g4 : p.off + off + j - (p.off + off + len * i.size) = j - olds.length := by omega
                                      simp only [g2, g3, if_true, if_false, g4]
                                      exact hX2
                                  · have := hf rfl
                                    simp only [List.size_toArray, List.length_append, List.length_take, List.length_drop, Array.length_toList]
                                    omega)
                                (fun b hb => setRow_other w p.block b _ hb) (setRow_size w _ _) rfl rfl rfl
                              rw [← hget] at r' g'
                              refine ⟨_, _, _, .inl (fin fun ty => ?_), toV_slice_new _ _ _ _, r', g'⟩
                              rw [hX']
                              have key := run_append_fit (ty := ty) (base := some ⟨p.block, p.off + off, none⟩) (cap := cap + p.extra) (w' := w.setRow p.block (cc.toList.take (p.off + off + len * i.size) ++ xs ++ cc.toList.drop (p.off + off + len * i.size + xs.length)).toArray) ht hst hi hlx src hroom (by
                                simp only [Wrote, Addr.add_plain]; exact hst')
                              rw [key]
                              have : len + k + (cap + p.extra - (len + k)) = cap + p.extra := by omega
                              simp [this]
                            · -- a new row
                              obtain ⟨rk, gk⟩ := rep_kill r id n (by intro l e; rw [hg] at e; cases e)
                              obtain ⟨V, ρ', w', h1, h2, h3, h4⟩ := grown rk (hfresh (by omega)) hX' hroom hos hol hfc
                              rw [← hget] at h3 h4
                              exact ⟨V, ρ', w', h1, h2, h3, gk.trans h4⟩
                          · cases h
                        · cases h
                      · cases h
                    · cases h
                  · cases h
                · cases h
            · cases h
    · cases h
  · cases h

end
end Go.Rx
