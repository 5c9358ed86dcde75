/- Regions whose order is drawn come to one end: step by step. -/
import Derived.Test.YtfejmoipifepeaaGreatDoorRxG5
set_option linter.unusedSimpArgs false
set_option linter.unusedVariables false
set_option linter.unusedSectionVars false
namespace Go.Rx

section
variable {P : Program} {env : Env} {G : Cfg} {nt : Nat} {call : CallFn} {ops : Array Oper} {sts : Nat → St} {anc : Nat → Nat → Bool} {S : Nat → Prop} {c : Nat} {ρ0 ρ : Ren} {w0 w : World} {a : Act}

structure Inv (P : Program) (env : Env) (G : Cfg) (nt : Nat) (ops : Array Oper) (sts : Nat → St) (ρ0 : Ren) (w0 : World) (S : Nat → Prop) (c : Nat) (ρ : Ren) (a : Act) (w : World) : Prop where
  cle : c ≤ ops.size
  clast : c = 0 ∨ ∃ o, ops[c - 1]? = some o ∧ 3 ≤ kindOf P o.op
  wok : ∀ (i : Nat) (o : Oper), ops[i]? = some o → 3 ≤ kindOf P o.op → (S i ↔ i < c)
  aok : ∀ (i : Nat) (o : Oper), ops[i]? = some o → 2 ≤ kindOf P o.op → i < c → S i
  dom : ∀ id, (sts c).heap.get id ≠ none → ¬ ((sts c).next ≤ id ∧ id < (sts ops.size).next)
  rep : Rep env ρ (heapS P ops sts S c) w
  fresh : ∀ j, j < ops.size → ¬ S j → ∀ id, (sts j).next ≤ id → id < (sts (j + 1)).next → ρ id = none
  grows : Grows ρ0 (sts 0).heap.get (sts 0).next w0 ρ (heapS P ops sts S c) (sts ops.size).next w
  glob : GOk G ρ
  size : a.tmps.size = nt
  defers : a.defers = []
  t1 : ∀ (j : Nat) (o : Oper) (d : Nat) (v : AV), ops[j]? = some o → S j → o.dst = some d → (sts (j + 1)).tmps.get d = some v → v.toV env ρ = some (a.tmps.getD d undef)
  t2 : ∀ (t : Nat) (v : AV), (∀ (j : Nat) (o : Oper), ops[j]? = some o → S j → o.dst ≠ some t) → (sts 0).tmps.get t = some v → v.toV env ρ = some (a.tmps.getD t undef)
  closed : ∀ (k : Nat) (o : Oper) (e : Edge), ops[k]? = some o → S k → e ∈ o.after → Region.binds .any e = true → S e.on

/- An operation that may be next. -/
structure Next (ops : Array Oper) (S : Nat → Prop) (i : Nat) (o : Oper) : Prop where
  op : ops[i]? = some o
  un : ¬ S i
  after : ∀ e ∈ o.after, Region.binds .any e = true → S e.on

variable (T : Tr P G call nt ops sts) (L : Plan P ops anc) (I : Inv P env G nt ops sts ρ0 w0 S c ρ a w) {i : Nat} {o : Oper} (X : Next ops S i o)
include T L I X

theorem closed' : ∀ (k : Nat) (p : Oper) (e : Edge), ops[k]? = some p → (S k ∨ k = i) → e ∈ p.after → Region.binds .any e = true → (S e.on ∨ e.on = i) := by
  intro k p e hp hk he hb
  rcases hk with hk | hk
  · exact .inl (I.closed k p e hp hk he hb)
  · subst hk
    rw [X.op] at hp; cases hp
    exact .inl (X.after e he hb)

theorem anc_in {j : Nat} (h : anc i j = true) (hj : j ≠ i) : S j :=
  (L.ahead i j (fun k => S k ∨ k = i) h (closed' T L I X) (op_lt X.op) (.inr rfl)).resolve_right hj

theorem anc_out {j : Nat} (h : anc j i = true) (hlt : j < ops.size) : ¬ S j := fun hj =>
  X.un (L.ahead j i S h I.closed hlt hj)

theorem read_ok {t : Nat} {v : AV} (ht : t ∈ readsOf ops o) (hv : (sts i).tmps.get t = some v) : v.toV env ρ = some (a.tmps.getD t undef) := by
  have hil := op_lt X.op
  have uniq : ∀ {j k : Nat} {oj ok : Oper}, ops[j]? = some oj → ops[k]? = some ok → oj.dst = some t → ok.dst = some t → j = k := by
    intro j k oj ok hj hk dj dk
    rcases Nat.lt_trichotomy j k with h | h | h
    · exact absurd dk (L.dst j k oj ok t h hj hk dj)
    · exact h
    · exact absurd dj (L.dst k j ok oj t h hk hj dk)
  by_cases hw : ∃ (j : Nat) (oj : Oper), ops[j]? = some oj ∧ oj.dst = some t
  · obtain ⟨j, oj, hj, dj⟩ := hw
    have early : (i ≤ j) → (sts i).tmps.get t = (sts 0).tmps.get t := fun hle =>
      tmps_range T (Nat.zero_le i) (by omega) fun m om _ hm hom e => by
        have := uniq hom hj e dj; omega
    have notS : ¬ S j → (∀ (k : Nat) (o : Oper), ops[k]? = some o → S k → o.dst ≠ some t) := fun hn k ok hk hs e => by
      have := uniq hk hj e dj; subst this; exact hn hs
    rcases Nat.lt_trichotomy j i with h | h | h
    · have hanc : anc i j = true := by
        cases e : anc i j with
        | true => rfl
        | false => exact absurd ht (L.tmp1 j i oj o t h hj X.op e dj)
      have hS := anc_in T L I X hanc (by omega)
      refine I.t1 j oj t v hj hS dj ?_
      rw [← hv]
      exact (tmps_range T (i := j + 1) (by omega) (by omega) fun m om h1 hm hom e => by
        have := uniq hom hj e dj; omega).symm
    · subst h
      rw [early (Nat.le_refl _)] at hv
      exact I.t2 t v (notS X.un) hv
    · have hanc : anc j i = true := by
        cases e : anc j i with
        | true => rfl
        | false => exact absurd ht (L.tmp2 i j o oj t h X.op hj e dj)
      rw [early (by omega)] at hv
      exact I.t2 t v (notS (anc_out T L I X hanc (op_lt hj))) hv
  · have hno : ∀ (k : Nat) (ok : Oper), ops[k]? = some ok → ok.dst ≠ some t := fun k ok hk e => hw ⟨k, ok, hk, e⟩
    rw [tmps_range T (Nat.zero_le i) (by omega) fun m om _ _ hom => hno m om hom] at hv
    exact I.t2 t v (fun j oj hj _ => hno j oj hj) hv

theorem ev_at : EvOk env ρ (opd G (sts i).tmps) a.eval o.op.operands := fun x hx v hv =>
  ev_ok1 I.glob x (fun t u e hu => read_ok T L I X (by
    subst e
    exact List.mem_append_left _ (List.mem_filterMap.2 ⟨.tmp t, by simpa using hx, rfl⟩)) hu) v hv

theorem wanted_at {b : Bool} (h : wantedA ops (sts i).tmps o = some b) : Region.wanted o (yielded ops a.tmps) = b :=
  wantedA_ok (fun j want d p v hg hp hd hv => read_ok T L I X (by
    refine List.mem_append_right _ ?_
    simp [hg, hp, hd]) hv) h

/- The temporaries behind it. -/
theorem tmps_next {ρ' : Ren} (hle : Ren.Le ρ ρ') {v : AV} {V : Value} (hv : v.toV env ρ' = some V) (hput : putA nt (sts i).tmps o.dst v = some (sts (i + 1)).tmps) :
    (a.put o.dst V).tmps.size = nt ∧ (a.put o.dst V).defers = [] ∧
    (∀ (j : Nat) (p : Oper) (d : Nat) (u : AV), ops[j]? = some p → (S j ∨ j = i) → p.dst = some d → (sts (j + 1)).tmps.get d = some u → u.toV env ρ' = some ((a.put o.dst V).tmps.getD d undef)) ∧
    (∀ (t : Nat) (u : AV), (∀ (j : Nat) (p : Oper), ops[j]? = some p → (S j ∨ j = i) → p.dst ≠ some t) → (sts 0).tmps.get t = some u → u.toV env ρ' = some ((a.put o.dst V).tmps.getD t undef)) := by
  have other : ∀ t, o.dst ≠ some t → (a.put o.dst V).tmps.getD t undef = a.tmps.getD t undef := by
    intro t ht
    cases hd : o.dst with
    | none => rfl
    | some d =>
      have : d ≠ t := fun e => ht (by rw [hd, e])
      simp [Act.put, Array.getD_eq_getD_getElem?, Array.getElem?_setIfInBounds_ne this]
  refine ⟨?_, ?_, fun j p d u hp hj hd hu => ?_, fun t u ht hu => ?_⟩
  · cases o.dst <;> simp [Act.put, I.size]
  · cases o.dst <;> simp [Act.put, I.defers]
  · by_cases e : j = i
    · subst e
      rw [X.op] at hp; cases hp
      unfold putA at hput
      simp only [hd] at hput
      split at hput
      · rename_i hlt
        rw [Go.Rx.T.get_put _ _ _ _ _ hput] at hu
        simp at hu; subst hu
        have hlt : d < nt := by simpa [Nat.blt_eq] using hlt
        have : (a.put (some d) V).tmps.getD d undef = V := by
          simp [Act.put, Array.getD_eq_getD_getElem?, I.size, hlt]
        rw [hd, this]; exact hv
      · cases hput
    · have hj := hj.resolve_right e
      have hne : o.dst ≠ some d := fun e2 => by
        rcases Nat.lt_trichotomy j i with h | h | h
        · exact L.dst j i p o d h hp X.op hd e2
        · exact e h
        · exact L.dst i j o p d h X.op hp e2 hd
      rw [other d hne]
      exact AV.toV_mono hle _ _ (I.t1 j p d u hp hj hd hu)
  · rw [other t (ht i o X.op (.inr rfl))]
    exact AV.toV_mono hle _ _ (I.t2 t u (fun j p hp hj => ht j p hp (.inl hj)) hu)

theorem fresh_next {ρ' : Ren} (hs : ∀ id, id < (sts i).next ∨ (sts (i + 1)).next ≤ id → ρ' id = ρ id) : ∀ j, j < ops.size → ¬ (S j ∨ j = i) → ∀ id, (sts j).next ≤ id → id < (sts (j + 1)).next → ρ' id = none := by
  intro j hj hn id h1 h2
  have hil := op_lt X.op
  have hne : j ≠ i := fun e => hn (.inr e)
  rw [hs id]
  · exact I.fresh j hj (fun h => hn (.inl h)) id h1 h2
  · rcases Nat.lt_or_ge j i with h | h
    · left
      have := next_le T (i := j + 1) (j := i) h (by omega); omega
    · right
      have := next_le T (i := i + 1) (j := j) (by omega) (by omega); omega

/- It turns nothing. -/
theorem next_quiet (hk : kindOf P o.op < 3) (hA : ¬ IsA P ops sts i) {v : AV} {V : Value} (hv : v.toV env ρ = some V) (hput : putA nt (sts i).tmps o.dst v = some (sts (i + 1)).tmps) :
    Inv P env G nt ops sts ρ0 w0 (fun k => S k ∨ k = i) c ρ (a.put o.dst V) w := by
  obtain ⟨p1, p2, p3, p4⟩ := tmps_next T L I X (.refl ρ) hv hput
  have hh : heapS P ops sts (fun k => S k ∨ k = i) c = heapS P ops sts S c := heapS_congr fun j _ hj =>
    ⟨fun e => e.resolve_right (fun e => hA (e ▸ hj)), .inl⟩
  refine ⟨I.cle, I.clast, fun j p hp hk3 => ?_, fun j p hp hk2 hlt => .inl (I.aok j p hp hk2 hlt), I.dom, by rw [hh]; exact I.rep, fresh_next T L I X (fun _ _ => rfl), by rw [hh]; exact I.grows, I.glob, p1, p2, p3, p4, closed' T L I X⟩
  rw [← I.wok j p hp hk3]
  refine ⟨fun e => e.resolve_right fun e => ?_, .inl⟩
  subst e
  rw [X.op] at hp; cases hp; omega

/- It makes a block. -/
theorem next_makes (hA : IsA P ops sts i) {v : AV} {V : Value} {x : AObj} {ρ' : Ren} {w' : World} (hx : (sts (i + 1)).heap.get (sts i).next = some x) (hnext : (sts (i + 1)).next = (sts i).next + 1)
    (hrep : Rep env ρ' (HF.up (heapS P ops sts S c) (sts i).next (some x)) w') (hg : Grows ρ (heapS P ops sts S c) (sts i).next w ρ' (HF.up (heapS P ops sts S c) (sts i).next (some x)) ((sts i).next + 1) w')
    (hv : v.toV env ρ' = some V) (hput : putA nt (sts i).tmps o.dst v = some (sts (i + 1)).tmps) :
    Inv P env G nt ops sts ρ0 w0 (fun k => S k ∨ k = i) c ρ' (a.put o.dst V) w' := by
  obtain ⟨p1, p2, p3, p4⟩ := tmps_next T L I X hg.le hv hput
  have hil := op_lt X.op
  obtain ⟨o', ho', hk, hw⟩ := id hA
  rw [X.op] at ho'; cases ho'
  have hci : c ≤ i := by
    rcases Nat.lt_or_ge i c with h | h
    · exact absurd (I.aok i o X.op (by omega) h) X.un
    · exact h
  have hh := heapS_up (S := S) T hci hA hx
  have h0 := next_le T (i := 0) (j := i) (by omega) (by omega)
  have h1 := next_le T (i := i + 1) (j := ops.size) (by omega) (Nat.le_refl _)
  refine ⟨I.cle, I.clast, fun j p hp hk3 => ?_, fun j p hp hk2 hlt => .inl (I.aok j p hp hk2 hlt), I.dom, by rw [hh]; exact hrep, fresh_next T L I X (fun id h => hg.same id (by omega)), by rw [hh]; exact I.grows.step hg h0 (by omega), I.glob.mono hg.le, p1, p2, p3, p4, closed' T L I X⟩
  rw [← I.wok j p hp hk3]
  refine ⟨fun e => e.resolve_right fun e => ?_, .inl⟩
  subst e
  rw [X.op] at hp; cases hp; omega

/- What an operation that turns memory, or calls, finds. -/
theorem turns_finds (hk : 3 ≤ kindOf P o.op) : c ≤ i ∧ (∀ (m : Nat) (om : Oper), m < i → ops[m]? = some om → 2 ≤ kindOf P om.op → S m) ∧
    (∀ (m : Nat) (om : Oper), c ≤ m → m < i → ops[m]? = some om → kindOf P om.op < 3) ∧
    (∀ (id : Nat) (x : AObj), (sts i).heap.get id = some x → heapS P ops sts S c id = some x) ∧
    (∀ id, (sts i).heap.get id ≠ none → ¬ ((sts i).next ≤ id ∧ id < (sts ops.size).next)) := by
  have hil := op_lt X.op
  have hci : c ≤ i := by
    rcases Nat.lt_or_ge i c with h | h
    · exact absurd ((I.wok i o X.op hk).2 h) X.un
    · exact h
  have hall : ∀ (m : Nat) (om : Oper), m < i → ops[m]? = some om → 2 ≤ kindOf P om.op → S m := fun m om hm hom h2 => by
    cases e : anc i m with
    | true => exact anc_in T L I X e (by omega)
    | false => exact absurd (L.mem m i om o hm hom X.op e hk h2) id
  have hq : ∀ (m : Nat) (om : Oper), c ≤ m → m < i → ops[m]? = some om → kindOf P om.op < 3 := fun m om h1 h2 hom => by
    rcases Nat.lt_or_ge (kindOf P om.op) 3 with h | h
    · exact h
    · have := (I.wok m om hom h).1 (hall m om h2 hom (by omega))
      omega
  refine ⟨hci, hall, hq, fun id x hx => heap_sub T hci (by omega) hq (fun m h1 h2 hA => ?_) I.dom hx, fun id hx => heap_names T hci (by omega) hq I.dom hx⟩
  obtain ⟨om, hom, hk2, _⟩ := hA
  exact hall m om h2 hom (by omega)

theorem next_turns (hk : 3 ≤ kindOf P o.op) {v : AV} {V : Value} {ρ' : Ren} {w' : World}
    (hrep : Rep env ρ' (sts (i + 1)).heap.get w') (hg : Grows ρ (sts i).heap.get (sts i).next w ρ' (sts (i + 1)).heap.get (sts (i + 1)).next w')
    (hv : v.toV env ρ' = some V) (hput : putA nt (sts i).tmps o.dst v = some (sts (i + 1)).tmps) :
    Inv P env G nt ops sts ρ0 w0 (fun k => S k ∨ k = i) (i + 1) ρ' (a.put o.dst V) w' := by
  obtain ⟨p1, p2, p3, p4⟩ := tmps_next T L I X hg.le hv hput
  obtain ⟨hci, hall, hq, hsub, hnames⟩ := turns_finds T L I X hk
  have hil := op_lt X.op
  have h0 := next_le T (i := 0) (j := i) (by omega) (by omega)
  have h1 := next_le T (i := i + 1) (j := ops.size) (by omega) (Nat.le_refl _)
  have hnA : ¬ IsA P ops sts i := fun ⟨o', ho', hk2, _⟩ => by rw [X.op] at ho'; cases ho'; omega
  -- the blocks made ahead of their time
  have hahead : ∀ {id : Nat} {x : AObj}, (∃ j, i + 1 ≤ j ∧ (S j ∨ j = i) ∧ IsA P ops sts j ∧ (sts j).next = id) → newX P ops sts id = some x →
      heapS P ops sts S c id = some x ∧ (sts i).heap.get id = none ∧ (sts (i + 1)).next ≤ id := by
    intro id x hx hnew
    obtain ⟨j, hj, hS, hA, e⟩ := hx
    have hS := hS.resolve_right (by omega)
    have h2 := next_le T hj (by have := isA_lt hA; omega)
    have h3 := isA_next T hA
    have h4 := next_le T (i := j + 1) (j := ops.size) (by have := isA_lt hA; omega) (Nat.le_refl _)
    have h5 := T.mono i o X.op
    refine ⟨by rw [heapS_new ⟨j, by omega, hS, hA, e⟩]; exact hnew, ?_, by omega⟩
    cases hn : (sts i).heap.get id with
    | none => rfl
    | some y => exact absurd ⟨by omega, by omega⟩ (hnames id (by rw [hn]; simp))
  have hown : ∀ {b : Nat}, Owned ρ (sts i).heap.get b → Owned ρ (heapS P ops sts S c) b := fun ⟨id, x, p, h1, h2, h3⟩ => ⟨id, x, p, hsub id x h1, h2, h3⟩
  -- the block of one made ahead isn't among those that the operation had
  have hfree : ∀ {id : Nat} {x : AObj} {p : Place}, heapS P ops sts S c id = some x → (sts i).heap.get id = none → ρ id = some p → ¬ Owned ρ (sts i).heap.get p.block := by
    rintro id x p hx hn hp ⟨id2, y, q, hy, hq, e⟩
    have := I.rep.inj id id2 p q x y hx (hsub id2 y hy) hp hq e.symm
    subst this
    rw [hn] at hy; cases hy
  have hcases : ∀ {id : Nat} {x : AObj}, heapS P ops sts (fun k => S k ∨ k = i) (i + 1) id = some x →
      (heapS P ops sts S c id = some x ∧ (sts i).heap.get id = none ∧ (sts (i + 1)).next ≤ id) ∨ ((sts (i + 1)).heap.get id = some x) := by
    intro id x hx
    by_cases h : ∃ j, i + 1 ≤ j ∧ (S j ∨ j = i) ∧ IsA P ops sts j ∧ (sts j).next = id
    · rw [heapS_new h] at hx; exact .inl (hahead h hx)
    · rw [heapS_old h] at hx; exact .inr hx
  have hsame : ∀ {id : Nat}, (sts (i + 1)).next ≤ id → ρ' id = ρ id := fun h => hg.same _ (.inr h)
  have hrep' : Rep env ρ' (heapS P ops sts (fun k => S k ∨ k = i) (i + 1)) w' := by
    refine ⟨fun id x hx => ?_, fun id1 id2 q1 q2 x1 x2 hx1 hx2 hq1 hq2 e => ?_⟩
    · rcases hcases hx with ⟨h1, h2, h3⟩ | h1
      · obtain ⟨p, y, hp, hy, ho⟩ := I.rep.obj id x h1
        refine ⟨p, y, by rw [hsame h3]; exact hp, ?_, ho.mono hg.le⟩
        rw [hg.keeps p.block (I.rep.lt ⟨id, x, p, h1, hp, rfl⟩) (hfree h1 h2 hp)]; exact hy
      · exact hrep.obj id x h1
    · have mixed : ∀ {id1 id2 : Nat} {q1 q2 : Place} {x1 x2 : AObj}, heapS P ops sts S c id1 = some x1 → (sts i).heap.get id1 = none → (sts (i + 1)).next ≤ id1 → (sts (i + 1)).heap.get id2 = some x2 →
          ρ' id1 = some q1 → ρ' id2 = some q2 → q1.block = q2.block → False := by
        intro id1 id2 q1 q2 x1 x2 h1 h2 h3 h4 hq1 hq2 e
        rw [hsame h3] at hq1
        have hlt := I.rep.lt ⟨id1, x1, q1, h1, hq1, rfl⟩
        rcases hg.owns q1.block ⟨id2, x2, q2, h4, hq2, e.symm⟩ with h | h
        · exact hfree h1 h2 hq1 h
        · omega
      rcases hcases hx1 with ⟨a1, a2, a3⟩ | a1
      · rcases hcases hx2 with ⟨b1, b2, b3⟩ | b1
        · rw [hsame a3] at hq1; rw [hsame b3] at hq2
          exact I.rep.inj id1 id2 q1 q2 x1 x2 a1 b1 hq1 hq2 e
        · exact absurd (mixed a1 a2 a3 b1 hq1 hq2 e) id
      · rcases hcases hx2 with ⟨b1, b2, b3⟩ | b1
        · exact absurd (mixed b1 b2 b3 a1 hq2 hq1 e.symm) id
        · exact hrep.inj id1 id2 q1 q2 x1 x2 a1 b1 hq1 hq2 e
  have hg' : Grows ρ (heapS P ops sts S c) (sts i).next w ρ' (heapS P ops sts (fun k => S k ∨ k = i) (i + 1)) (sts (i + 1)).next w' := by
    refine ⟨hg.le, hg.same, hg.nle, fun b hb hn => hg.keeps b hb (fun h => hn (hown h)), hg.size, ?_, fun id x hx => ?_, hg.os, hg.tape, hg.output, fun id l q hid hqq => ?_⟩
    · rintro b ⟨id, x, p, hx, hp, e⟩
      rcases hcases hx with ⟨h1, h2, h3⟩ | h1
      · rw [hsame h3] at hp
        exact .inl ⟨id, x, p, h1, hp, e⟩
      · exact (hg.owns b ⟨id, x, p, h1, hp, e⟩).imp hown (fun h => h)
    · rcases hcases hx with ⟨h1, h2, h3⟩ | h1
      · exact .inl ⟨x, h1⟩
      · rcases hg.dom id x h1 with ⟨y, hy⟩ | h
        · exact .inl ⟨y, hsub id y hy⟩
        · exact .inr h
    · -- what is only read
      have hwhere : (sts i).heap.get id = some (.rom l) ∨ (∃ j, i + 1 ≤ j ∧ (S j ∨ j = i) ∧ IsA P ops sts j ∧ (sts j).next = id) ∧ newX P ops sts id = some (.rom l) := by
        by_cases hx : ∃ j, c ≤ j ∧ S j ∧ IsA P ops sts j ∧ (sts j).next = id
        · rw [heapS_new hx] at hid
          obtain ⟨j, a1, a2, a3, a4⟩ := hx
          rcases Nat.lt_trichotomy j i with hlt | heq | hgt
          · left
            rw [heap_run T hci (by omega) hq, heapS_new ⟨j, a1, hlt, a3, a4⟩]; exact hid
          · subst heq; exact absurd a2 X.un
          · exact .inr ⟨⟨j, hgt, .inl a2, a3, a4⟩, hid⟩
        · rw [heapS_old hx] at hid
          left
          rw [heap_run T hci (by omega) hq, heapS_old]
          · exact hid
          · rintro ⟨j, a1, a2, a3, a4⟩
            obtain ⟨oj, hoj, hk2, _⟩ := (show IsA P ops sts j from a3)
            exact hx ⟨j, a1, hall j oj a2 hoj (by omega), a3, a4⟩
      rcases hwhere with h1 | ⟨h1, h2⟩
      · obtain ⟨h3, h4⟩ := hg.rom id l q h1 hqq
        refine ⟨h3, ?_⟩
        rw [heapS_old]
        · exact h4
        · intro hx
          cases hn : newX P ops sts id with
          | none =>
            obtain ⟨j, _, _, hA, e⟩ := hx
            obtain ⟨oj, hoj, hk2, hw2⟩ := (show IsA P ops sts j from hA)
            obtain ⟨v, x, _, _, e2, _⟩ := isA_spec T hoj hk2 hw2
            rw [← e, newX_at T hA, e2] at hn
            simp [HF.up] at hn
          | some y =>
            have := (hahead hx hn).2.1
            rw [h1] at this; cases this
      · obtain ⟨h3, h4, h5⟩ := hahead h1 h2
        refine ⟨hg.keeps _ (I.rep.lt ⟨id, _, q, h3, hqq, rfl⟩) (hfree h3 h4 hqq), ?_⟩
        rw [heapS_new h1]; exact h2
  refine ⟨by omega, .inr ⟨o, by simpa using X.op, hk⟩, fun j p hp hk3 => ?_, fun j p hp hk2 hlt => ?_, fun id hx => ?_, hrep', fresh_next T L I X (fun id h => hg.same id h), I.grows.step hg' h0 h1, I.glob.mono hg.le, p1, p2, p3, p4, closed' T L I X⟩
  · constructor
    · rintro (h | h)
      · have := (I.wok j p hp hk3).1 h; omega
      · omega
    · intro h
      rcases Nat.lt_or_ge j i with h' | h'
      · exact .inl (hall j p h' hp (by omega))
      · exact .inr (by omega)
  · rcases Nat.lt_or_ge j i with h' | h'
    · exact .inl (hall j p h' hp hk2)
    · exact .inr (by omega)
  · cases hy : (sts (i + 1)).heap.get id with
    | none => exact absurd hy hx
    | some y =>
      rcases hg.dom id y hy with ⟨z, hz⟩ | h
      · have := hnames id (by rw [hz]; simp)
        have := T.mono i o X.op
        omega
      · omega

/- A look finds one of its stages. -/
theorem look_finds {v : AV} (hL : Look P G ops anc sts i o v) (hk : kindOf P o.op = 1) : ∃ h : Go.Rx.T AObj, evalR P (opd G (sts i).tmps) h o.op = some v ∧ Rep env ρ h.get w := by
  have hil := op_lt X.op
  rcases Nat.lt_or_ge i c with hlt | hci
  · rcases I.clast with h | ⟨p, hp, hk3⟩
    · omega
    · have hS := (I.wok (c - 1) p hp hk3).2 (by omega)
      have hne : c - 1 ≠ i := fun e => X.un (e ▸ hS)
      have ha : anc (c - 1) i = false := by
        cases e : anc (c - 1) i with
        | false => rfl
        | true => exact absurd hS (anc_out T L I X e (op_lt hp))
      have := hL.behind (c - 1) p hp (by omega) hk3 ha
      rw [show c - 1 + 1 = c by omega] at this
      exact ⟨_, this, I.rep.sub fun id x hx => heap_sub T (Nat.le_refl c) I.cle (fun m om h1 h2 => by omega) (fun m h1 h2 => by omega) I.dom hx⟩
  · have hex : ∀ k, c ≤ k → k ≤ ops.size → ∃ m, c ≤ m ∧ m ≤ k ∧ (m = k ∨ ∃ om, ops[m]? = some om ∧ 2 ≤ kindOf P om.op ∧ ¬ S m) ∧ ∀ (j : Nat) (oj : Oper), c ≤ j → j < m → ops[j]? = some oj → 2 ≤ kindOf P oj.op → S j := by
      intro k hck
      induction hck with
      | refl => intro _; exact ⟨c, Nat.le_refl _, Nat.le_refl _, .inl rfl, fun j oj h1 h2 => by omega⟩
      | step h ih =>
        rename_i k
        intro hk'
        obtain ⟨m, h1, h2, h3, h4⟩ := ih (by omega)
        rcases h3 with h3 | h3
        · subst h3
          obtain ⟨om, hom⟩ := op_at (ops := ops) (i := m) (by omega)
          by_cases hb : 2 ≤ kindOf P om.op ∧ ¬ S m
          · exact ⟨m, h1, by omega, .inr ⟨om, hom, hb.1, hb.2⟩, h4⟩
          · refine ⟨m + 1, by omega, Nat.le_refl _, .inl rfl, fun j oj a1 a2 hoj hk2 => ?_⟩
            rcases Nat.lt_or_ge j m with hlt | hge
            · exact h4 j oj a1 hlt hoj hk2
            · have e : j = m := by omega
              subst e
              rw [hom] at hoj; cases hoj
              exact Classical.byContradiction fun hn => hb ⟨hk2, hn⟩
        · exact ⟨m, h1, by omega, .inr h3, h4⟩
    obtain ⟨m, h1, h2, h3, h4⟩ := hex i hci (by omega)
    have hev : evalR P (opd G (sts i).tmps) (sts m).heap o.op = some v := by
      rcases h3 with h3 | ⟨om, hom, hk2, hnS⟩
      · rw [h3]; exact hL.here
      · have hne : m ≠ i := fun e => by subst e; rw [X.op] at hom; cases hom; omega
        refine hL.before m om hom (by omega) hk2 ?_
        cases e : anc i m with
        | false => rfl
        | true => exact absurd (anc_in T L I X e hne) hnS
    refine ⟨_, hev, I.rep.sub fun id x hx => heap_sub T h1 (by omega) (fun j oj a1 a2 hoj => ?_) (fun j a1 a2 hA => ?_) I.dom hx⟩
    · rcases Nat.lt_or_ge (kindOf P oj.op) 3 with h | h
      · exact h
      · have := (I.wok j oj hoj h).1 (h4 j oj a1 a2 hoj (by omega))
        omega
    · obtain ⟨oj, hoj, hk2, _⟩ := hA
      exact h4 j oj a1 a2 hoj (by omega)
end
end Go.Rx
