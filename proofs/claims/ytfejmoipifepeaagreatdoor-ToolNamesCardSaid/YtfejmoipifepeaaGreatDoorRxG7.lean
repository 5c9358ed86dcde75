/- Regions whose order is drawn come to one end: the end. -/
import Derived.Test.YtfejmoipifepeaaGreatDoorRxG6
set_option linter.unusedSimpArgs false
set_option linter.unusedVariables false
set_option linter.unusedSectionVars false
namespace Go.Rx

section
variable {P : Program} {env : Env} {G : Cfg} {nt : Nat} {call : CallFn} {ops : Array Oper} {sts : Nat → St} {anc : Nat → Nat → Bool} {S : Nat → Prop} {c : Nat} {ρ0 ρ : Ren} {w0 w : World} {a : Act}

theorem next_wp (hE : EOk P env G) (hcall : CallOk P env G call) (hty : ∀ o ∈ ops.toList, typedB P o.op = true)
    (T : Tr P G call nt ops sts) (L : Plan P ops anc) (K : ∀ i o, ops[i]? = some o → kindOf P o.op = 1 → wantedA ops (sts i).tmps o = some true → ∃ v, Look P G ops anc sts i o v)
    (I : Inv P env G nt ops sts ρ0 w0 S c ρ a w) {i : Nat} {o : Oper} (X : Next ops S i o) {Q : Exit → Act → World → Prop} {R : Act → World → Prop}
    (hR : ∀ c' ρ' a' w', Inv P env G nt ops sts ρ0 w0 (fun k => S k ∨ k = i) c' ρ' a' w' → R a' w') : wpOp P ops Q i R a w := by
  have hil := op_lt X.op
  have hev := ev_at T L I X
  have hty' : typedB P o.op = true := hty o (Array.mem_def.1 (Array.mem_of_getElem? X.op))
  have hfr : ∀ id, (sts i).next ≤ id → id < (sts (i + 1)).next → ρ id = none := I.fresh i hil X.un
  unfold wpOp
  simp only [X.op]
  rcases stepA_cases (T.step i o X.op) with ⟨hw, hput, hh, hn⟩ | ⟨hw, h⟩
  · have hwt := wanted_at T L I X hw
    simp only [hwt, Bool.false_eq_true, if_false]
    have hv : (AV.tuple []).toV env ρ = some undef := by simp [AV.toV, toVs, undef]
    have hnA : ¬ IsA P ops sts i := fun ⟨o', ho', _, hw'⟩ => by rw [X.op] at ho'; cases ho'; rw [hw] at hw'; cases hw'
    rcases Nat.lt_or_ge (kindOf P o.op) 3 with hk | hk
    · exact hR _ _ _ _ (next_quiet T L I X hk hnA hv hput)
    · obtain ⟨_, _, _, hsub, _⟩ := turns_finds T L I X hk
      refine hR _ _ _ _ (next_turns T L I X hk (by rw [hh]; exact I.rep.sub hsub) ?_ hv hput)
      rw [hh, hn]
      exact .refl _ _ _ _
  · have hwt := wanted_at T L I X hw
    simp only [hwt, if_true]
    refine .inl ?_
    rcases evalO_kind h with ⟨hk, h⟩ | ⟨hk, h⟩ | ⟨hk, h⟩ | ⟨hk, h⟩
    · obtain ⟨v, hv, _, _, hput⟩ := finV_next h
      have hnA : ¬ IsA P ops sts i := fun ⟨o', ho', hk', _⟩ => by rw [X.op] at ho'; cases ho'; omega
      obtain ⟨V, hV, hrun⟩ := evalPS_ok hE.sym hv hev (typedB_src hty')
      have s : StepsTo P env ρ a.eval o (heapS P ops sts S c) 0 v (heapS P ops sts S c) 0 w := .inl ⟨V, ρ, w, .inl (hrun w), hV, I.rep, .refl _ _ _ _⟩
      unfold Oper.wp
      rw [hrun w]
      exact hR _ _ _ _ (next_quiet T L I X (by omega) hnA hV hput)
    · obtain ⟨v, hv, _, _, hput⟩ := finV_next h
      have hnA : ¬ IsA P ops sts i := fun ⟨o', ho', hk', _⟩ => by rw [X.op] at ho'; cases ho'; omega
      obtain ⟨v', hL⟩ := K i o X.op hk hw
      have e : v' = v := by have := hL.here; rw [hv] at this; exact (Option.some.inj this).symm
      subst e
      obtain ⟨hp, hev', hrep⟩ := look_finds T L I X hL hk
      obtain ⟨V, hV, hrun⟩ := evalR_ok hrep hev' hev
      unfold Oper.wp
      rw [hrun]
      exact hR _ _ _ _ (next_quiet T L I X (by omega) hnA hV hput)
    · have hA : IsA P ops sts i := ⟨o, X.op, hk, hw⟩
      obtain ⟨v, x, hv, e1, e2, hput⟩ := isA_spec T X.op hk hw
      have hn : ρ (sts i).next = none := hfr _ (Nat.le_refl _) (by omega)
      obtain ⟨V, ρ', w', hrun, hV, hrep, hg⟩ := (evalA_ok hE.sz hv hev hn (w := w)).rep I.rep hn
      unfold Oper.wp
      rw [hrun]
      exact hR _ _ _ _ (next_makes T L I X hA (by rw [e2]; simp [HF.up]) e1 hrep hg hV hput)
    · obtain ⟨_, _, _, hsub, _⟩ := turns_finds T L I X hk
      have hrepi : Rep env ρ (sts i).heap.get w := I.rep.sub hsub
      have fin : ∀ {v : AV}, StepsTo P env ρ a.eval o (sts i).heap.get (sts i).next v (sts (i + 1)).heap.get (sts (i + 1)).next w → putA nt (sts i).tmps o.dst v = some (sts (i + 1)).tmps → o.wp P a w R Q :=
        fun s hput => s.wp fun V ρ' w' hV hrep hg => hR _ _ _ _ (next_turns T L I X hk hrep hg hV hput)
      rcases h with h | h
      · obtain ⟨v, hp, n, hv, e1, e2, hput⟩ := finW_next h
        subst e1; subst e2
        exact fin (.inl (evalW_ok hE.sz hrepi hv hev (typedB_typed hty') fun hlt => hfr _ (Nat.le_refl _) hlt)) hput
      · obtain ⟨v, hp, n, hv, e1, e2, hput⟩ := finW_next h
        subst e1; subst e2
        exact fin (evalCall_ok' hcall (τ := (sts i).tmps) hrepi I.glob hev hv fun id h1 h2 => hfr id h1 h2) hput

/- Nothing is left to do. -/
theorem all_done (L : Plan P ops anc) {listed : Array Bool} (hs : listed.size = ops.size) (h : Region.ready .any ops listed = []) : ∀ i, i < ops.size → listed.getD i false = true := by
  intro i
  induction i using Nat.strongRecOn with
  | ind i ih =>
    intro hi
    cases hl : listed.getD i false with
    | true => rfl
    | false =>
      obtain ⟨o, ho⟩ := op_at hi
      have : i ∈ Region.ready .any ops listed := mem_ready.2 ⟨by
        simp only [Array.getD_eq_getD_getElem?] at hl ⊢
        rw [Array.getElem?_eq_getElem (by omega)] at hl ⊢
        exact hl, o, ho, fun e he hb => by
          have := L.edge i o e ho he hb
          exact ih e.on this (by omega)⟩
      rw [h] at this; cases this

theorem inv_end (T : Tr P G call nt ops sts) (L : Plan P ops anc) (I : Inv P env G nt ops sts ρ0 w0 S c ρ a w) (hall : ∀ i, i < ops.size → S i) :
    SRel env G nt ρ (sts ops.size) a w ∧ Grows ρ0 (sts 0).heap.get (sts 0).next w0 ρ (sts ops.size).heap.get (sts ops.size).next w := by
  have hh : (sts ops.size).heap.get = heapS P ops sts S c := by
    rw [heap_run T I.cle (Nat.le_refl _) fun m om h1 h2 hom => ?_]
    · exact heapS_congr fun j _ hA => ⟨fun h => hall j h, fun _ => isA_lt hA⟩
    · rcases Nat.lt_or_ge (kindOf P om.op) 3 with h | h
      · exact h
      · have := (I.wok m om hom h).1 (hall m h2); omega
  refine ⟨⟨by rw [hh]; exact I.rep, fun t v hv => ?_, I.size, I.defers, I.glob⟩, by rw [hh]; exact I.grows⟩
  by_cases hw : ∃ (j : Nat) (oj : Oper), ops[j]? = some oj ∧ oj.dst = some t
  · obtain ⟨j, oj, hj, dj⟩ := hw
    refine I.t1 j oj t v hj (hall j (op_lt hj)) dj ?_
    rw [← hv]
    refine (tmps_range T (i := j + 1) (op_lt hj) (Nat.le_refl _) fun m om h1 h2 hom e => ?_).symm
    exact L.dst j m oj om t (by omega) hj hom dj e
  · have hno : ∀ (k : Nat) (ok : Oper), ops[k]? = some ok → ok.dst ≠ some t := fun k ok hk e => hw ⟨k, ok, hk, e⟩
    rw [tmps_range T (Nat.zero_le _) (Nat.le_refl _) fun m om _ _ hom => hno m om hom] at hv
    exact I.t2 t v (fun j oj hj _ => hno j oj hj) hv

theorem countP_lt {p q : Nat → Bool} : ∀ {l : List Nat}, (∀ x, q x = true → p x = true) → (∃ x ∈ l, p x = true ∧ q x = false) → l.countP q < l.countP p
  | [], _, ⟨_, h, _⟩ => by cases h
  | y :: l, hpq, ⟨x, hx, hp, hq⟩ => by
    have hle : l.countP q ≤ l.countP p := List.countP_mono_left fun x _ => hpq x
    simp only [List.countP_cons]
    rcases List.mem_cons.1 hx with e | hx
    · subst e
      rw [hp, hq]; simp; omega
    · have := countP_lt (l := l) hpq ⟨x, hx, hp, hq⟩
      have : (if q y = true then 1 else 0) ≤ (if p y = true then 1 else 0) := by
        cases e : q y with
        | false => simp
        | true => rw [hpq y e]; simp
      omega

theorem any_wp (hE : EOk P env G) (hcall : CallOk P env G call) (hty : ∀ o ∈ ops.toList, typedB P o.op = true)
    (T : Tr P G call nt ops sts) (L : Plan P ops anc) (K : ∀ i o, ops[i]? = some o → kindOf P o.op = 1 → wantedA ops (sts i).tmps o = some true → ∃ v, Look P G ops anc sts i o v) {Q : Exit → Act → World → Prop}
    (hQ : ∀ ρ' a' w', SRel env G nt ρ' (sts ops.size) a' w' → Grows ρ0 (sts 0).heap.get (sts 0).next w0 ρ' (sts ops.size).heap.get (sts ops.size).next w' → Q .normal a' w') :
    ∀ (fuel : Nat) (listed : Array Bool) (c : Nat) (ρ : Ren) (a : Act) (w : World), listed.size = ops.size → (List.range ops.size).countP (fun i => !listed.getD i true) ≤ fuel →
      Inv P env G nt ops sts ρ0 w0 (fun i => listed.getD i false = true) c ρ a w → wpAny P .any ops Q fuel listed a w := by
  intro fuel
  induction fuel with
  | zero =>
    intro listed c ρ a w hs hc I
    have hnil : Region.ready .any ops listed = [] := by
      cases hr : Region.ready .any ops listed with
      | nil => rfl
      | cons j r =>
        obtain ⟨h0, o, ho, _⟩ := mem_ready.1 (show j ∈ Region.ready .any ops listed by rw [hr]; simp)
        have : 0 < (List.range ops.size).countP (fun i => !listed.getD i true) := List.countP_pos_iff.2 ⟨j, List.mem_range.2 (op_lt ho), by rw [h0]; rfl⟩
        omega
    refine ⟨hnil, ?_⟩
    obtain ⟨h1, h2⟩ := inv_end T L I (all_done L hs hnil)
    exact hQ _ _ _ h1 h2
  | succ fuel ih =>
    intro listed c ρ a w hs hc I
    refine ⟨fun hnil => ?_, fun i hi => ?_⟩
    · obtain ⟨h1, h2⟩ := inv_end T L I (all_done L hs hnil)
      exact hQ _ _ _ h1 h2
    · obtain ⟨h0, o, ho, hall⟩ := mem_ready.1 hi
      have hil := op_lt ho
      have h0' : listed.getD i false = false := by
        simp only [Array.getD_eq_getD_getElem?] at h0 ⊢
        rw [Array.getElem?_eq_getElem (by omega)] at h0 ⊢
        exact h0
      have X : Next ops (fun i => listed.getD i false = true) i o := ⟨ho, by rw [h0']; simp, hall⟩
      refine next_wp hE hcall hty T L K I X fun c' ρ' a' w' I' => ih _ c' ρ' a' w' (by simp [hs]) ?_ ?_
      · have := countP_lt (l := List.range ops.size) (p := fun k => !listed.getD k true) (q := fun k => !(listed.setIfInBounds i true).getD k true) (fun k hk => ?_) ⟨i, List.mem_range.2 hil, by rw [h0]; rfl, ?_⟩
        · omega
        · by_cases e : i = k
          · subst e; simp [hs, hil] at hk
          · rw [getD_set_ne true e] at hk; exact hk
        · simp [hs, hil]
      · have : (fun k => (listed.setIfInBounds i true).getD k false = true) = (fun k => listed.getD k false = true ∨ k = i) := by
          funext k
          refine propext ⟨fun h => ?_, fun h => ?_⟩
          · by_cases e : i = k
            · exact .inr e.symm
            · rw [getD_set_ne false e] at h; exact .inl h
          · rcases h with h | h
            · exact getD_set_true h
            · subst h; simp [hs, hil]
        rw [this]; exact I'

theorem region_sound (hE : EOk P env G) (hm : P.follows .mixedOrders = true) : RegionSound P env G := by
  intro call nt id ops st st' ρ a w hmono hcall hr hreg h hf
  simp only [regOk, Bool.and_eq_true, Bool.not_true, Bool.false_or] at hreg
  have hty : ∀ o ∈ ops.toList, typedB P o.op = true := fun o ho => List.all_eq_true.1 hreg.1 o ho
  unfold evalReg at h
  simp only at h
  split at h
  · rename_i tr e htr
    split at h
    · rename_i hreads
      cases h
      obtain ⟨h0, hend, hstep⟩ := evalTr_spec htr
      have hlen : ∀ i, i ≤ ops.size → ∃ s, tr[i]? = some s := by
        intro i hi
        rcases Nat.lt_or_ge i ops.size with hlt | hge
        · obtain ⟨o, ho⟩ := op_at hlt
          obtain ⟨s, s', h1, _⟩ := hstep i o (by simpa using ho)
          exact ⟨s, h1⟩
        · have : i = ops.size := by omega
          subst this
          exact ⟨st', by simpa using hend⟩
      have hsts : ∀ i, i ≤ ops.size → tr[i]? = some (tr.getD i st) := fun i hi => by
        obtain ⟨s, hs⟩ := hlen i hi
        rw [List.getD_eq_getElem?_getD, hs]; rfl
      have T : Tr P G call nt ops (fun i => tr.getD i st) := by
        have hs : ∀ i o, ops[i]? = some o → stepA P G call nt ops o (tr.getD i st) = some (tr.getD (i + 1) st) := fun i o ho => by
          obtain ⟨s, s', h1, h2, h3⟩ := hstep i o (by simpa using ho)
          rw [List.getD_eq_getElem?_getD, List.getD_eq_getElem?_getD, h1, h2]; exact h3
        exact ⟨hs, fun i o ho => stepA_mono hmono (hs i o ho)⟩
      have L := plan_of hreg.2
      have K := looks_of (G := G) hsts hreads
      have e0 : tr.getD 0 st = st := by rw [List.getD_eq_getElem?_getD, h0]; rfl
      have en : tr.getD ops.size st = st' := by rw [List.getD_eq_getElem?_getD, show tr[ops.size]? = some st' by simpa using hend]; rfl
      refine wp_region_any hm (any_wp (ρ0 := ρ) (w0 := w) hE hcall hty T L K (fun ρ' a' w' h1 h2 => ?_) ops.size _ 0 ρ a _ (by simp) ?_ ?_)
      · simp only [en] at h1 h2
        simp only [e0] at h2
        exact ⟨rfl, ρ', h1, h2⟩
      · exact Nat.le_trans List.countP_le_length (by simp)
      · have hnone : ∀ i, ¬ ((Array.replicate ops.size false).getD i false = true) := fun i => by
          simp only [Array.getD_eq_getD_getElem?, Array.getElem?_replicate]
          split <;> simp
        have hheap : heapS P ops (fun i => tr.getD i st) (fun i => (Array.replicate ops.size false).getD i false = true) 0 = st.heap.get := by
          funext id
          rw [heapS_old (fun ⟨j, _, b, _⟩ => hnone j b)]
          simp only [e0]
        have hnle : st.next ≤ st'.next := evalTr_mono hmono htr
        refine ⟨Nat.zero_le _, .inl rfl, fun i o _ _ => ⟨fun h => absurd h (hnone i), fun h => by omega⟩, fun i o _ _ h => by omega, fun id hx => ?_, ?_, fun j hj _ id h1 h2 => ?_, ?_, hr.glob, hr.size, hr.defers, fun j o d v _ hj => absurd hj (hnone j), fun t v _ hv => ?_, fun k o e _ hk => absurd hk (hnone k)⟩
        · simp only [e0] at hx ⊢
          simp only [en]
          cases hx' : st.heap.get id with
          | none => exact absurd hx' hx
          | some x =>
            obtain ⟨p, hp⟩ := hr.rep.there hx'
            intro ⟨h1, h2⟩
            have := hf id h1 h2
            rw [this] at hp; cases hp
        · rw [hheap]; exact hr.rep.drawn _
        · have a1 := next_le T (i := 0) (j := j) (by omega) (by omega)
          have a2 := next_le T (i := j + 1) (j := ops.size) (by omega) (Nat.le_refl _)
          simp only [e0] at a1
          simp only [en] at a2
          exact hf id (by omega) (by omega)
        · rw [hheap]
          simp only [e0, en]
          exact (Grows.drawn _ _ _ _ _).wide hnle
        · simp only [e0] at hv
          exact hr.tmps t v hv
    · cases h
  · cases h
end
end Go.Rx
