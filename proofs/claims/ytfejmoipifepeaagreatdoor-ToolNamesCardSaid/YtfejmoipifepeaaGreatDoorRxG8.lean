/- The executor is right: functions. -/
import Derived.Test.YtfejmoipifepeaaGreatDoorRxG7
import Derived.Laws.Externs
set_option linter.unusedSimpArgs false
set_option linter.unusedVariables false
set_option linter.unusedSectionVars false
namespace Go.Rx

/- A text's bytes one by one. -/
theorem bytes_loop {β : Type} (f : β → UInt8 → β) (s : List UInt8) (n : Nat) (h : n ≤ (ByteArray.mk s.toArray).size) : ∀ (i j : Nat) (b : β), i + j = n → n = s.length →
    ByteArray.foldlM.loop (m := _root_.Id) (fun b x => pure (f b x)) (ByteArray.mk s.toArray) n h i j b = (s.drop j).foldl f b
  | 0, j, b, e, e2 => by
    unfold ByteArray.foldlM.loop
    rw [dif_neg (by omega), List.drop_of_length_le (by omega)]; rfl
  | i + 1, j, b, e, e2 => by
    unfold ByteArray.foldlM.loop
    have hj : j < s.length := by omega
    rw [dif_pos (by omega)]
    rw [List.drop_eq_getElem_cons hj]
    simp only [List.foldl_cons]
    exact bytes_loop f s n h i (j + 1) (f b s[j]) (by omega) e2
theorem bytes_foldl {β : Type} (f : β → UInt8 → β) (s : List UInt8) (b : β) : (ByteArray.mk s.toArray).foldl f b = s.foldl f b := by
  have hs : (ByteArray.mk s.toArray).size = s.length := by simp [ByteArray.size]
  unfold ByteArray.foldl ByteArray.foldlM
  simp only [Nat.le_refl, dite_true]
  exact bytes_loop f s _ (Nat.le_refl _) _ 0 b (by omega) hs

/- What a library function without a text is in the model. -/
def Ext.fn : Ext → Array Value → Sem Value
  | .indexByte => Extern.BytealgIndexByte.indexByte
  | .count => Extern.BytealgCount.count
  | .compare => Extern.BytealgCompare.compare
  | .noEscape => Extern.AbiNoEscape.same
  | .makeNoZero => Extern.AbiNoEscape.same

structure ExtIs (P : Program) (f : Nat) (x : Ext) : Prop where
  fact : ∃ fn : Func, P.funcs[f]? = some fn ∧ (fn.name == "runtime.NumGoroutine") = false ∧ fn.body.isNone = true ∧ Extern.findNext fn = none ∧ Extern.find fn = some x.fn

structure ProgOk (P : Program) (xt : Nat → Option Ext) : Prop where
  orders : P.follows .mixedOrders = true
  names : ∀ (f : Nat) (fn : Func), P.funcs[f]? = some fn → fn.body.isSome = true → fn.name ≠ "runtime.NumGoroutine"
  ext : ∀ f x, xt f = some x → ExtIs P f x

theorem get_list (s : List UInt8) (i : Nat) : (ByteArray.mk s.toArray)[i]! = s.getD i 0 := by
  have hd : (default : UInt8) = 0 := rfl
  rw [getElem!_def]
  have h2 : (ByteArray.mk s.toArray)[i]? = s[i]? := by
    by_cases h : i < s.length
    · rw [List.getElem?_eq_getElem h]
      have : i < (ByteArray.mk s.toArray).size := by simpa [ByteArray.size] using h
      rw [getElem?_pos (ByteArray.mk s.toArray) i this]; rfl
    · rw [List.getElem?_eq_none (by omega)]
      have : ¬ i < (ByteArray.mk s.toArray).size := by simpa [ByteArray.size] using h
      rw [getElem?_neg (ByteArray.mk s.toArray) i this]
  rw [h2, List.getD_eq_getElem?_getD]
  cases s[i]? <;> simp [hd]

theorem find_shift {p : Nat → Bool} (n : Nat) : (List.range (n + 1)).find? p = if p 0 then some 0 else ((List.range n).find? fun i => p (i + 1)).map (· + 1) := by
  rw [List.range_succ_eq_map, List.find?_cons]
  cases h : p 0 with
  | true => simp
  | false =>
    simp only [List.find?_map]
    rfl

theorem findB_ok (c : UInt8) : ∀ (s : List UInt8) (k : Nat), findB c.toNat s k = match (List.range s.length).find? (fun i => s.getD i 0 == c) with | some i => ((k + i : Nat) : Int) | none => -1
  | [], k => by simp [findB]
  | b :: s, k => by
    simp only [findB, List.length_cons]
    rw [find_shift]
    by_cases h : b = c
    · subst h; simp
    · have h' : ¬ (b.toNat = c.toNat) := fun e => h (UInt8.toNat_inj.1 e)
      have e1 : ((b :: s).getD 0 0 == c) = false := by simp [h]
      rw [e1]
      simp only [h', beq_iff_eq, if_false, Bool.false_eq_true]
      rw [findB_ok c s (k + 1)]
      have e2 : (fun i => (b :: s).getD (i + 1) 0 == c) = fun i => s.getD i 0 == c := rfl
      rw [e2]
      cases (List.range s.length).find? fun i => s.getD i 0 == c with
      | none => simp
      | some i => simp only [Option.map_some]; congr 1; omega

theorem countB_ok (c : UInt8) : ∀ (s : List UInt8) (n : Nat), countB c.toNat s n = s.foldl (fun n x => if x == c then n + 1 else n) n
  | [], n => rfl
  | b :: s, n => by
    simp only [countB, List.foldl_cons]
    rw [countB_ok c s]
    by_cases h : b = c
    · subst h; simp
    · have h' : ¬ (b.toNat = c.toNat) := fun e => h (UInt8.toNat_inj.1 e)
      simp [h, h']

theorem count_int (c : UInt8) : ∀ (s : List UInt8) (n : Nat), s.foldl (fun (n : Int) x => if x == c then n + 1 else n) (n : Int) = ((s.foldl (fun (n : Nat) x => if x == c then n + 1 else n) n : Nat) : Int)
  | [], n => rfl
  | b :: s, n => by
    simp only [List.foldl_cons]
    rw [← count_int c s]
    split <;> simp

def cmpL (a b : List UInt8) : Int :=
  match (List.range (min a.length b.length)).find? fun i => a.getD i 0 != b.getD i 0 with
  | some i => if a.getD i 0 < b.getD i 0 then -1 else 1
  | none => if a.length < b.length then -1 else if a.length > b.length then 1 else 0

theorem cmpL_ok : ∀ (a b : List UInt8), cmpL a b = if lessB a b then -1 else if eqB a b then 0 else 1
  | [], [] => rfl
  | [], y :: b => by simp [cmpL, lessB]
  | x :: a, [] => by simp [cmpL, lessB, eqB]
  | x :: a, y :: b => by
    have ih := cmpL_ok a b
    unfold cmpL at ih ⊢
    simp only [List.length_cons, show min (a.length + 1) (b.length + 1) = min a.length b.length + 1 by omega]
    rw [find_shift]
    have e0 : ((x :: a).getD 0 0 != (y :: b).getD 0 0) = (x != y) := rfl
    have e2 : (fun i => (x :: a).getD (i + 1) 0 != (y :: b).getD (i + 1) 0) = fun i => a.getD i 0 != b.getD i 0 := rfl
    rw [e0, e2]
    by_cases h : x = y
    · subst h
      have e5 : lessB (x :: a) (x :: b) = lessB a b := by
        have : x.toNat.blt x.toNat = false := by rw [Bool.eq_false_iff]; intro e; rw [Nat.blt_eq] at e; omega
        simp [lessB, this]
      have e6 : eqB (x :: a) (x :: b) = eqB a b := by simp [eqB]
      rw [e5, e6]
      simp only [bne_self_eq_false, Bool.false_eq_true, if_false]
      cases hf : (List.range (min a.length b.length)).find? fun i => a.getD i 0 != b.getD i 0 with
      | none => rw [hf] at ih; simp only [Option.map_none] at ih ⊢; rw [← ih]; simp
      | some i => rw [hf] at ih; simp only [Option.map_some] at ih ⊢; rw [← ih]; rfl
    · have h1 : (x != y) = true := by simp [h]
      have h' : ¬ (x.toNat = y.toNat) := fun e => h (UInt8.toNat_inj.1 e)
      rw [h1]
      simp only [if_true]
      have e3 : (x :: a).getD 0 0 = x := rfl
      have e4 : (y :: b).getD 0 0 = y := rfl
      rw [e3, e4]
      by_cases hlt : x < y
      · have : x.toNat < y.toNat := UInt8.lt_iff_toNat_lt.1 hlt
        simp [hlt, lessB, this]
      · have : ¬ x.toNat < y.toNat := fun e => hlt (UInt8.lt_iff_toNat_lt.2 e)
        simp [hlt, lessB, eqB, this, h']

section
variable {P : Program} {env : Env} {ρ : Ren} {G : Cfg} {w : World} {t t' : T AObj} {n n' : Nat}

theorem toVs1 {a : AV} {l : List Value} (h : toVs env ρ [a] = some l) : ∃ x, a.toV env ρ = some x ∧ l = [x] := by
  obtain ⟨x, ys, hx, hy, rfl⟩ := toVs_cons h
  simp [toVs] at hy; subst hy
  exact ⟨x, hx, rfl⟩

theorem toVs2 {a b : AV} {l : List Value} (h : toVs env ρ [a, b] = some l) : ∃ x y, a.toV env ρ = some x ∧ b.toV env ρ = some y ∧ l = [x, y] := by
  obtain ⟨x, ys, hx, hy, rfl⟩ := toVs_cons h
  obtain ⟨y, hy2, rfl⟩ := toVs1 hy
  exact ⟨x, y, hx, hy2, rfl⟩

theorem evalX_ok {x : Ext} {args : List AV} {v : AV} {vals : List Value} (h : evalX x args t n = some (v, t', n')) (hv : toVs env ρ args = some vals) :
    t' = t ∧ n' = n ∧ ∃ V, v.toV env ρ = some V ∧ (x.fn vals.toArray).run P w = .ok V w := by
  unfold evalX at h
  split at h
  · rename_i s c
    cases h
    obtain ⟨a, b, ha, hb, rfl⟩ := toVs2 hv
    simp [AV.toV] at ha hb; subst ha; subst hb
    refine ⟨rfl, rfl, _, rfl, ?_⟩
    have := run_indexByte_string (P := P) ⟨s.toArray⟩ c w
    simp only [Ext.fn]
    rw [this]
    congr 2
    unfold firstIdx
    rw [findB_ok]
    simp only [get_list]
    have : (ByteArray.mk s.toArray).size = s.length := by simp [ByteArray.size]
    rw [this]
    have : c.toNat.toUInt8 = UInt8.ofNat c.toNat := rfl
    rw [this]
    cases (List.range s.length).find? fun i => s.getD i 0 == UInt8.ofNat c.toNat <;> simp
  · rename_i s c
    cases h
    obtain ⟨a, b, ha, hb, rfl⟩ := toVs2 hv
    simp [AV.toV] at ha hb; subst ha; subst hb
    refine ⟨rfl, rfl, _, rfl, ?_⟩
    change Sem.run P (do
      let b ← Extern.Bytes.bytesOf (.string ⟨s.toArray⟩)
      let c ← Extern.Bytes.asByte (.int .u8 c)
      pure (goInt (b.foldl (fun n x => if x == c then n + 1 else n) (0 : Nat)))) w = _
    simp only [Extern.Bytes.bytesOf, Extern.Bytes.asByte, Sem.run_bind, Sem.run_pure, Result.andThen_ok]
    rw [countB_ok, bytes_foldl, count_int]
    rfl
  · rename_i s u
    cases h
    obtain ⟨a, b, ha, hb, rfl⟩ := toVs2 hv
    simp [AV.toV] at ha hb; subst ha; subst hb
    refine ⟨rfl, rfl, _, rfl, ?_⟩
    change Sem.run P (do pure (goInt (Extern.BytealgCompare.cmp (← Extern.Bytes.bytesOf (.string ⟨s.toArray⟩)) (← Extern.Bytes.bytesOf (.string ⟨u.toArray⟩))))) w = _
    simp only [Extern.Bytes.bytesOf, Sem.run_bind, Sem.run_pure, Result.andThen_ok]
    rw [← cmpL_ok]
    simp only [Extern.BytealgCompare.cmp, cmpL, get_list, ByteArray.size, List.size_toArray, goInt]
    rfl
  · rename_i y
    cases h
    obtain ⟨a, ha, rfl⟩ := toVs1 hv
    exact ⟨rfl, rfl, a, ha, rfl⟩
  · cases h

def resOf (tmps : Array Value) : ResultVar → Sem Value
  | .tmp t => pure (tmps.getD t undef)
  | .cell a t => do loadVar t (← asAddr (tmps.getD a undef))

theorem results_eq (fn : Func) (tmps : Array Value) : results fn tmps = (do
    let vs ← fn.results.mapM (resOf tmps)
    pure (if h : vs.size = 1 then vs[0] else .tuple vs)) := rfl

theorem oneRes_ok {st : St} {a : Act} {nt : Nat} (hr : SRel env G nt ρ st a w) {r : ResultVar} {v : AV} (h : oneRes P st r = some v) :
    ∃ V, v.toV env ρ = some V ∧ (resOf a.tmps r).run P w = .ok V w := by
  unfold oneRes at h
  split at h
  · rename_i t
    exact ⟨_, hr.tmps t v h, rfl⟩
  · rename_i c ty
    split at h
    · rename_i id o hc
      obtain ⟨p, hp, hX⟩ := toV_ptr (hr.tmps c _ hc)
      obtain ⟨V, hV, hrun⟩ := loadA_ok hr.rep h hp
      refine ⟨V, hV, ?_⟩
      simp only [resOf, hX, asAddr, Sem.run_bind, Sem.run_pure, Result.andThen_ok]
      exact hrun
    · cases h

theorem allRes_ok {st : St} {a : Act} {nt : Nat} (hr : SRel env G nt ρ st a w) : ∀ {rs : List ResultVar} {vs : List AV}, allRes P st rs = some vs →
    ∃ Vs, toVs env ρ vs = some Vs ∧ (rs.mapM (resOf a.tmps)).run P w = .ok Vs w
  | [], vs, h => by simp [allRes] at h; subst h; exact ⟨[], rfl, by simp⟩
  | r :: l, vs, h => by
    simp only [allRes] at h
    split at h
    · rename_i v hv
      split at h
      · rename_i us hus
        cases h
        obtain ⟨V, hV, h1⟩ := oneRes_ok hr hv
        obtain ⟨Vs, hVs, h2⟩ := allRes_ok hr hus
        refine ⟨V :: Vs, toVs_cons_mk hV hVs, ?_⟩
        rw [List.mapM_cons]
        simp only [Sem.run_bind, Sem.run_pure]
        rw [h1]
        simp only [Result.andThen_ok]
        rw [h2]
        rfl
      · cases h
    · cases h

theorem resA_ok {fn : Func} {st : St} {a : Act} {nt : Nat} (hr : SRel env G nt ρ st a w) {v : AV} (h : resA fn st P = some v) :
    ∃ V, v.toV env ρ = some V ∧ (results fn a.tmps).run P w = .ok V w := by
  unfold resA at h
  have key : ∀ vs, allRes P st fn.results.toList = some vs → ∃ Vs, toVs env ρ vs = some Vs ∧ (results fn a.tmps).run P w = .ok (if h : Vs.toArray.size = 1 then Vs.toArray[0] else .tuple Vs.toArray) w := by
    intro vs hvs
    obtain ⟨Vs, h1, h2⟩ := allRes_ok hr hvs
    refine ⟨Vs, h1, ?_⟩
    rw [results_eq, Array.mapM_eq_mapM_toList]
    simp only [Sem.run_bind, Sem.run_map, Sem.run_pure]
    rw [h2]
    rfl
  split at h
  · rename_i u hu
    cases h
    obtain ⟨Vs, h1, h2⟩ := key _ hu
    obtain ⟨x, hx, rfl⟩ := toVs1 h1
    exact ⟨x, hx, by rw [h2]; rfl⟩
  · rename_i vs hne hvs
    cases h
    obtain ⟨Vs, h1, h2⟩ := key _ hvs
    refine ⟨.tuple Vs.toArray, by simp [AV.toV, h1], ?_⟩
    rw [h2, dif_neg]
    intro hsz
    have hl := toVs_length h1
    simp at hsz
    rw [hsz] at hl
    match vs, hl with
    | [u], _ => exact hne u rfl
  · cases h

theorem argTmps_ok : ∀ {args : List AV} {i : Nat} {τ τ' : T AV}, argTmps i args τ = some τ' → ∀ t, τ'.get t = if t < i then τ.get t else if t < i + args.length then args[t - i]? else τ.get t
  | [], i, τ, τ', h, t => by
    simp [argTmps] at h; subst h
    split
    · rfl
    · rw [if_neg (by simp; omega)]
  | v :: l, i, τ, τ', h, t => by
    simp only [argTmps] at h
    split at h
    · rename_i τ1 h1
      rw [argTmps_ok h t, T.get_put _ _ _ _ _ h1]
      by_cases e1 : t < i
      · rw [if_pos (by omega), if_neg (by omega), if_pos e1]
      · rw [if_neg e1]
        by_cases e2 : t = i
        · subst e2; simp
        · rw [if_neg (by omega)]
          simp only [List.length_cons]
          by_cases e3 : t < i + 1 + l.length
          · rw [if_pos e3, if_pos (by omega), show t - i = (t - (i + 1)) + 1 by omega]; simp
          · rw [if_neg e3, if_neg e2, if_neg (by omega)]
    · cases h

theorem evalF_ok (hE : EOk P env G) {xt : Nat → Option Ext} (hP : ProgOk P xt) : ∀ fuel, CallOk P env G (evalF P G xt fuel) := by
  intro fuel
  induction fuel with
  | zero => intro f args h n v h' n' e; simp [evalF] at e
  | succ fuel ih =>
    intro f args h n v h' n' e ρ w vals hrep hglob hvals hfresh
    simp only [evalF] at e
    split at e
    · rename_i x hx
      right
      obtain ⟨fn, h1, h2, h3, h4, h5⟩ := (hP.ext f x hx).fact
      obtain ⟨rfl, rfl, V, hV, hrun⟩ := evalX_ok (P := P) (w := w) e hvals
      refine ⟨V, w, ?_, ρ, hV, hrep, .refl _ _ _ _⟩
      rw [run_callFunc_extern h1 h2 h3 h4 h5, hrun]; rfl
    · rename_i hx
      left
      split at e
      · cases e
      · rename_i fn hfn
        split at e
        · cases e
        · rename_i c hc
          have hname := hP.names f fn hfn (by rw [hc]; rfl)
          refine ⟨by simp [callFunc, hfn, hname, hc], ?_⟩
          split at e
          · cases e
          · rename_i τ hτ
            split at e
            · rename_i hlen
              have hlen : args.length ≤ fn.ntmps := by simpa using hlen
              have hvl := toVs_length hvals
              refine calls_of_wp hfn hc ?_
              have fin : ∀ {ex : Ex} {st : St}, (ex = .normal ∨ ex = .ret) → evalC P G (evalF P G xt fuel) fn.ntmps 1000000 (.code c) { tmps := τ, heap := h, next := n } = some (ex, st) →
                  resA fn st P = some v → st.heap = h' → st.next = n' →
                  c.wp P (bodyPost P fn fun e w' => ∃ V, e = .returned V ∧ CallPost env ρ h n v h' n' w V w') { tmps := vals.toArray ++ Array.replicate (fn.ntmps - vals.toArray.size) undef, defers := [] } w := by
                rintro ex st hex h1 h2 rfl rfl
                have hr : SRel env G fn.ntmps ρ { tmps := τ, heap := h, next := n } { tmps := vals.toArray ++ Array.replicate (fn.ntmps - vals.toArray.size) undef, defers := [] } w := by
                  refine ⟨hrep, fun t u hu => ?_, by simp; omega, rfl, hglob⟩
                  simp only at hu
                  rw [argTmps_ok hτ t] at hu
                  simp only [Nat.not_lt_zero, if_false, Nat.zero_add, Nat.sub_zero] at hu
                  split at hu
                  · rename_i hlt
                    obtain ⟨y, hy, hu'⟩ := toVs_get hvals hu
                    rw [hu', Array.getD_eq_getD_getElem?, Array.getElem?_append_left (by simpa [hvl] using hlt)]
                    simp [hy]
                  · simp [T.get] at hu
                refine wp_mono ((evalC_ok hE (region_sound hE hP.orders) (evalF_mono fuel) ih _).1 c _ ex st ρ _ w hr h1 hfresh) ?_
                rintro _ a' w' ⟨rfl, ρ', hr', hg⟩
                obtain ⟨V, hV, hres⟩ := resA_ok hr' h2
                rcases hex with rfl | rfl <;> exact ⟨hr'.defers, V, hres, V, rfl, ρ', hV, hr'.rep, hg⟩
              split at e
              · rename_i st h1
                split at e
                · rename_i u h2
                  cases e
                  exact fin (.inl rfl) h1 h2 rfl rfl
                · cases e
              · rename_i st h1
                split at e
                · rename_i u h2
                  cases e
                  exact fin (.inr rfl) h1 h2 rfl rfl
                · cases e
              · cases e
            · cases e
end
end Go.Rx
