/- The executor's heaps: what an abstract heap says of a world, and how a world may go on. -/
import Derived.Test.YtfejmoipifepeaaGreatDoorRxA
import Derived.Below
set_option linter.unusedSimpArgs false
set_option linter.unusedVariables false
set_option linter.unusedSectionVars false
namespace Go.Rx
open Go.RowKit (Below)

section lists
variable {env : Env} {ρ : Ren}

theorem toVs_nil : toVs env ρ [] = some [] := rfl

theorem toVs_cons {v : AV} {l : List AV} {xs : List Value} (h : toVs env ρ (v :: l) = some xs) :
    ∃ x ys, v.toV env ρ = some x ∧ toVs env ρ l = some ys ∧ xs = x :: ys := by
  simp only [toVs] at h
  split at h
  · rename_i x ys hx hys; cases h; exact ⟨x, ys, hx, hys, rfl⟩
  · cases h

theorem toVs_cons_mk {v : AV} {l : List AV} {x : Value} {xs : List Value} (hx : v.toV env ρ = some x) (h : toVs env ρ l = some xs) :
    toVs env ρ (v :: l) = some (x :: xs) := by simp [toVs, hx, h]

theorem toVs_length : ∀ {l : List AV} {xs : List Value}, toVs env ρ l = some xs → xs.length = l.length
  | [], xs, h => by simp [toVs] at h; simp [← h]
  | v :: l, xs, h => by
    obtain ⟨x, ys, _, hy, rfl⟩ := toVs_cons h
    simp [toVs_length hy]

theorem toVs_get : ∀ {l : List AV} {xs : List Value}, toVs env ρ l = some xs → ∀ {i : Nat} {v : AV}, l[i]? = some v → ∃ x, xs[i]? = some x ∧ v.toV env ρ = some x
  | [], _, _, i, v, e => by simp at e
  | u :: l, xs, h, i, v, e => by
    obtain ⟨x, ys, hx, hy, rfl⟩ := toVs_cons h
    cases i with
    | zero => simp at e; subst e; exact ⟨x, by simp, hx⟩
    | succ i => simpa using toVs_get hy (i := i) (v := v) (by simpa using e)

theorem toVs_none : ∀ {l : List AV} {xs : List Value}, toVs env ρ l = some xs → ∀ {i : Nat}, l[i]? = none → xs[i]? = none := by
  intro l xs h i e
  have := toVs_length h
  simp at e ⊢
  omega

theorem toVs_append : ∀ {a b : List AV} {xs ys : List Value}, toVs env ρ a = some xs → toVs env ρ b = some ys → toVs env ρ (a ++ b) = some (xs ++ ys)
  | [], _, xs, _, ha, hb => by simp [toVs] at ha; simp [← ha, hb]
  | v :: a, b, xs, ys, ha, hb => by
    obtain ⟨x, zs, hx, hz, rfl⟩ := toVs_cons ha
    exact toVs_cons_mk hx (toVs_append hz hb)

theorem toVs_take : ∀ {l : List AV} {xs : List Value} (n : Nat), toVs env ρ l = some xs → toVs env ρ (l.take n) = some (xs.take n)
  | [], xs, n, h => by simp [toVs] at h; subst h; simp [toVs]
  | v :: l, xs, 0, _ => by simp [toVs]
  | v :: l, xs, n + 1, h => by
    obtain ⟨x, zs, hx, hz, rfl⟩ := toVs_cons h
    exact toVs_cons_mk hx (toVs_take n hz)

theorem toVs_drop : ∀ {l : List AV} {xs : List Value} (n : Nat), toVs env ρ l = some xs → toVs env ρ (l.drop n) = some (xs.drop n)
  | [], xs, n, h => by simp [toVs] at h; subst h; simp [toVs]
  | v :: l, xs, 0, h => by simpa using h
  | v :: l, xs, n + 1, h => by
    obtain ⟨x, zs, hx, hz, rfl⟩ := toVs_cons h
    simpa using toVs_drop n hz

theorem toVs_set : ∀ {l : List AV} {xs : List Value} {v : AV} {x : Value} (i : Nat), toVs env ρ l = some xs → v.toV env ρ = some x → toVs env ρ (l.set i v) = some (xs.set i x)
  | [], xs, v, x, i, h, _ => by simp [toVs] at h; subst h; simp [toVs]
  | u :: l, xs, v, x, 0, h, hv => by
    obtain ⟨y, zs, hx, hz, rfl⟩ := toVs_cons h
    exact toVs_cons_mk hv hz
  | u :: l, xs, v, x, i + 1, h, hv => by
    obtain ⟨y, zs, hx, hz, rfl⟩ := toVs_cons h
    exact toVs_cons_mk hx (toVs_set i hz hv)

theorem toVs_replicate {v : AV} {x : Value} (hv : v.toV env ρ = some x) : ∀ n, toVs env ρ (List.replicate n v) = some (List.replicate n x)
  | 0 => rfl
  | n + 1 => toVs_cons_mk hv (toVs_replicate hv n)

/- A list of values is what its abstract list says, place by place. -/
theorem toVs_ext : ∀ {l : List AV} {xs : List Value}, xs.length = l.length → (∀ (i : Nat) (v : AV), l[i]? = some v → ∃ x, xs[i]? = some x ∧ v.toV env ρ = some x) → toVs env ρ l = some xs
  | [], [], _, _ => rfl
  | [], _ :: _, h, _ => by simp at h
  | _ :: _, [], h, _ => by simp at h
  | v :: l, x :: xs, h, hp => by
    obtain ⟨y, hy, hv⟩ := hp 0 v (by simp)
    simp at hy; subst hy
    exact toVs_cons_mk hv (toVs_ext (by simpa using h) fun i u hu => by simpa using hp (i + 1) u (by simpa using hu))
end lists

/- Abstract objects. A cell may be unknown. 'frz': some of the row's cells may not be written. -/
inductive AObj where
  | cells (l : List (Option AV)) (elem : TypeId) (frz : Bool)
  | map (l : List (AV × AV × Nat)) (clock : Nat)
  | siter (s : List UInt8) (pos : Nat)
  | rom (l : List AV)

abbrev HF := Nat → Option AObj

def CRel (env : Env) (ρ : Ren) (l : List (Option AV)) (c : Array Value) (off : Nat) : Prop :=
  ∀ (i : Nat) (v : AV), l[i]? = some (some v) → ∃ x, v.toV env ρ = some x ∧ c[off + i]? = some x

def ORel (env : Env) (ρ : Ren) (p : Place) : AObj → Obj → Prop
  | .cells l elem frz, x => ∃ c lo hi, x = .cells c elem (lo, hi) ∧ c.size = p.off + l.length + p.extra * env.sz elem ∧ CRel env ρ l c p.off ∧
      (frz = false → lo = hi ∨ c.size ≤ lo)
  | .map l clock, x => ∃ es, x = .map es clock ∧ es.size = l.length ∧
      ∀ (i : Nat) (k v : AV) (b : Nat), l[i]? = some (k, v, b) → ∃ K V, es[i]? = some (⟨K, V, b⟩ : MapEntry) ∧ k.toV env ρ = some K ∧ v.toV env ρ = some V
  | .rom l, x => ∃ c e fz, x = .cells c e fz ∧ CRel env ρ (l.map some) c p.off
  | .siter s pos, x => p.off = 0 ∧ x = .stringIter ⟨s.toArray⟩ pos

theorem ORel.mono {env : Env} {ρ ρ' : Ren} (h : Ren.Le ρ ρ') {p : Place} : ∀ {o : AObj} {x : Obj}, ORel env ρ p o x → ORel env ρ' p o x
  | .cells l elem frz, x, ⟨c, lo, hi, hx, hs, hc, hf⟩ => ⟨c, lo, hi, hx, hs, fun i v hv => by
      obtain ⟨y, hy, hc⟩ := hc i v hv; exact ⟨y, AV.toV_mono h _ _ hy, hc⟩, hf⟩
  | .map l clock, x, ⟨es, hx, hs, hc⟩ => ⟨es, hx, hs, fun i k v b hv => by
      obtain ⟨K, V, he, hk, hv⟩ := hc i k v b hv; exact ⟨K, V, he, AV.toV_mono h _ _ hk, AV.toV_mono h _ _ hv⟩⟩
  | .rom l, x, ⟨c, e, fz, hx, hc⟩ => ⟨c, e, fz, hx, fun i v hv => by
      obtain ⟨y, hy, hc⟩ := hc i v hv; exact ⟨y, AV.toV_mono h _ _ hy, hc⟩⟩
  | .siter s pos, x, h => h

/- A row's cells. -/
def rowO : AObj → Option (List (Option AV))
  | .cells l _ _ => some l
  | .rom l => some (l.map some)
  | _ => none

structure Rep (env : Env) (ρ : Ren) (h : HF) (w : World) : Prop where
  obj : ∀ i o, h i = some o → ∃ p x, ρ i = some p ∧ w.heap[p.block]? = some x ∧ ORel env ρ p o x
  inj : ∀ i j p q o o', h i = some o → h j = some o' → ρ i = some p → ρ j = some q → p.block = q.block → i = j

def Owned (ρ : Ren) (h : HF) (b : Nat) : Prop := ∃ i o p, h i = some o ∧ ρ i = some p ∧ p.block = b

/- From a heap and world to the next ones; the new names lie from n on, below n'. -/
structure Grows (ρ : Ren) (h : HF) (n : Nat) (w : World) (ρ' : Ren) (h' : HF) (n' : Nat) (w' : World) : Prop where
  le : Ren.Le ρ ρ'
  same : ∀ i, i < n ∨ n' ≤ i → ρ' i = ρ i
  nle : n ≤ n'
  keeps : ∀ b, b < w.heap.size → ¬ Owned ρ h b → w'.heap[b]? = w.heap[b]?
  size : w.heap.size ≤ w'.heap.size
  owns : ∀ b, Owned ρ' h' b → Owned ρ h b ∨ w.heap.size ≤ b
  dom : ∀ i o, h' i = some o → (∃ o', h i = some o') ∨ (n ≤ i ∧ i < n')
  os : w'.os = w.os
  tape : w'.tape = w.tape
  output : w'.output = w.output
  rom : ∀ (i : Nat) (l : List AV) (p : Place), h i = some (.rom l) → ρ i = some p → w'.heap[p.block]? = w.heap[p.block]? ∧ h' i = some (.rom l)

theorem Grows.refl (ρ : Ren) (h : HF) (n : Nat) (w : World) : Grows ρ h n w ρ h n w :=
  ⟨.refl ρ, fun _ _ => rfl, Nat.le_refl _, fun _ _ _ => rfl, Nat.le_refl _, fun _ h => .inl h, fun _ o h => .inl ⟨o, h⟩, rfl, rfl, rfl, fun _ _ _ h _ => ⟨rfl, h⟩⟩

theorem Grows.trans {ρ ρ' ρ'' : Ren} {h h' h'' : HF} {n n' n'' : Nat} {w w' w'' : World}
    (a : Grows ρ h n w ρ' h' n' w') (b : Grows ρ' h' n' w' ρ'' h'' n'' w'') : Grows ρ h n w ρ'' h'' n'' w'' where
  le := a.le.trans b.le
  same := fun i hi => by
    have := a.nle; have := b.nle
    rw [b.same i (by omega), a.same i (by omega)]
  nle := Nat.le_trans a.nle b.nle
  keeps := fun k hk hn => by
    rw [b.keeps k (Nat.lt_of_lt_of_le hk a.size) (fun ho => by
      rcases a.owns k ho with h | h
      · exact hn h
      · omega), a.keeps k hk hn]
  size := Nat.le_trans a.size b.size
  owns := fun k hk => by
    rcases b.owns k hk with h | h
    · exact a.owns k h
    · exact .inr (Nat.le_trans a.size h)
  dom := fun i o hi => by
    have := a.nle; have := b.nle
    rcases b.dom i o hi with ⟨o', h⟩ | h
    · rcases a.dom i o' h with h | h
      · exact .inl h
      · exact .inr (by omega)
    · exact .inr (by omega)
  os := b.os.trans a.os
  tape := b.tape.trans a.tape
  output := b.output.trans a.output
  rom := fun i l p hi hp => by
    obtain ⟨h1, h2⟩ := a.rom i l p hi hp
    obtain ⟨h3, h4⟩ := b.rom i l p h2 (a.le i p hp)
    exact ⟨h3.trans h1, h4⟩

/- Nothing that was there and isn't owned has turned. -/
theorem Grows.below {ρ ρ' : Ren} {h h' : HF} {n n' : Nat} {w w' : World} (a : Grows ρ h n w ρ' h' n' w') {B : Nat} (hB : B ≤ w.heap.size)
    (hn : ∀ b, b < B → ¬ Owned ρ h b) : Below B w w' :=
  ⟨a.os, a.tape, a.output, a.size, fun k hk => a.keeps k (by omega) (hn k hk)⟩

section cells
variable {env : Env} {ρ : Ren} {h : HF} {w : World}

theorem Rep.cell (r : Rep env ρ h w) {i : Nat} {l : List (Option AV)} {e : TypeId} {f : Bool} (hi : h i = some (.cells l e f)) {p : Place} (hp : ρ i = some p)
    {o : Nat} {v : AV} (hv : l[o]? = some (some v)) : ∃ x, v.toV env ρ = some x ∧ w.cell? ⟨p.block, p.off + o, none⟩ = some x := by
  obtain ⟨q, x, hq, hx, c, lo, hi', rfl, hs, hc, hf⟩ := r.obj i _ hi
  rw [hp] at hq; cases hq
  obtain ⟨y, hy, hcy⟩ := hc o v hv
  exact ⟨y, hy, by simp [World.cell?, hx, hcy]⟩

theorem Rep.cellO (r : Rep env ρ h w) {i : Nat} {x : AObj} {l : List (Option AV)} (hi : h i = some x) (hx : rowO x = some l) {p : Place} (hp : ρ i = some p)
    {o : Nat} {v : AV} (hv : l[o]? = some (some v)) : ∃ x, v.toV env ρ = some x ∧ w.cell? ⟨p.block, p.off + o, none⟩ = some x := by
  unfold rowO at hx
  split at hx
  · cases hx; exact r.cell hi hp hv
  · cases hx
    obtain ⟨q, y, hq, hy, c, e, fz, rfl, hc⟩ := r.obj i _ hi
    rw [hp] at hq; cases hq
    obtain ⟨y', hy', hcy⟩ := hc o v hv
    exact ⟨y', hy', by simp [World.cell?, hy, hcy]⟩
  · cases hx

theorem Rep.there (r : Rep env ρ h w) {i : Nat} {o : AObj} (hi : h i = some o) : ∃ p, ρ i = some p := by
  obtain ⟨p, x, hp, _⟩ := r.obj i _ hi
  exact ⟨p, hp⟩

theorem Rep.lt (r : Rep env ρ h w) {b : Nat} (hb : Owned ρ h b) : b < w.heap.size := by
  obtain ⟨i, o, p, hi, hp, rfl⟩ := hb
  obtain ⟨q, x, hq, hx, _⟩ := r.obj i _ hi
  rw [hp] at hq; cases hq
  rcases Nat.lt_or_ge p.block w.heap.size with h | h
  · exact h
  · simp [Array.getElem?_eq_none h] at hx

/- A smaller heap. -/
theorem Rep.sub (r : Rep env ρ h w) {h' : HF} (hs : ∀ i o, h' i = some o → h i = some o) : Rep env ρ h' w :=
  ⟨fun i o hi => r.obj i o (hs i o hi), fun i j p q o o' hi hj => r.inj i j p q o o' (hs _ _ hi) (hs _ _ hj)⟩

/- The draws don't matter. -/
theorem Rep.drawn (r : Rep env ρ h w) (k : Nat) : Rep env ρ h { w with drawn := k } := ⟨r.obj, r.inj⟩

theorem Grows.drawn (ρ : Ren) (h : HF) (n : Nat) (w : World) (k : Nat) : Grows ρ h n w ρ h n { w with drawn := k } :=
  ⟨.refl ρ, fun _ _ => rfl, Nat.le_refl _, fun _ _ _ => rfl, Nat.le_refl _, fun _ h => .inl h, fun _ o h => .inl ⟨o, h⟩, rfl, rfl, rfl, fun _ _ _ h _ => ⟨rfl, h⟩⟩

end cells

/- One more name. -/
def Ren.ext (ρ : Ren) (n : Nat) (p : Place) : Ren := fun i => if i = n then some p else ρ i
theorem Ren.ext_self (ρ : Ren) (n : Nat) (p : Place) : ρ.ext n p n = some p := by simp [Ren.ext]
theorem Ren.le_ext {ρ : Ren} {n : Nat} {p : Place} (h : ρ n = none) : Ren.Le ρ (ρ.ext n p) := fun i q hq => by
  unfold Ren.ext; split
  · rename_i e; subst e; rw [h] at hq; cases hq
  · exact hq

/- One object more, or another one: of a trie. -/
def HF.up (h : HF) (n : Nat) (o : Option AObj) : HF := fun i => if i = n then o else h i

theorem HF.get_put {t t' : T AObj} {k n : Nat} {o : Option AObj} (h : T.put k t n o = some t') : t'.get = HF.up t.get n o := by
  funext j; exact T.get_put o k t t' n h j

/- A new block. -/
theorem rep_new {env : Env} {ρ : Ren} {h : HF} {w w' : World} {n : Nat} {o : AObj} {x : Obj} {p : Place} (r : Rep env ρ h w) (hn : ρ n = none)
    (hsz : w'.heap.size = w.heap.size + 1) (hold : ∀ b, b < w.heap.size → w'.heap[b]? = w.heap[b]?) (hnew : w'.heap[w.heap.size]? = some x)
    (hos : w'.os = w.os) (htape : w'.tape = w.tape) (hout : w'.output = w.output) (hp : p.block = w.heap.size) (ho : ORel env (ρ.ext n p) p o x) :
    Rep env (ρ.ext n p) (h.up n (some o)) w' ∧ Grows ρ h n w (ρ.ext n p) (h.up n (some o)) (n + 1) w' := by
  have hle : Ren.Le ρ (ρ.ext n p) := Ren.le_ext hn
  have hne : ∀ i o', h i = some o' → i ≠ n := fun i o' hi e => by
    subst e; obtain ⟨q, _, hq, _⟩ := r.obj _ _ hi; rw [hn] at hq; cases hq
  have hlt : ∀ i o' q, h i = some o' → ρ i = some q → q.block < w.heap.size := fun i o' q hi hq => r.lt ⟨i, o', q, hi, hq, rfl⟩
  have hext : ∀ i, i ≠ n → (ρ.ext n p) i = ρ i := fun i hi => by simp [Ren.ext, hi]
  have hup : ∀ i, i ≠ n → (h.up n (some o)) i = h i := fun i hi => by simp [HF.up, hi]
  refine ⟨⟨fun i o' hi => ?_, fun i j p' q' o₁ o₂ hi hj hpi hqj e => ?_⟩, hle, fun i hi => hext i (by omega), by omega, fun b hb hnb => ?_, ?_, fun b hb => ?_, fun i o' hi => ?_, hos, htape, hout, fun i l q hi hq => ⟨hold _ (hlt i _ q hi hq), by rw [hup i (hne i _ hi)]; exact hi⟩⟩
  · by_cases e : i = n
    · subst e
      simp [HF.up] at hi; subst hi
      exact ⟨p, x, Ren.ext_self _ _ _, by rw [hp]; exact hnew, ho⟩
    · rw [hup i e] at hi
      obtain ⟨q, y, hq, hy, hor⟩ := r.obj i o' hi
      refine ⟨q, y, by rw [hext i e]; exact hq, ?_, hor.mono hle⟩
      have := hlt i o' q hi hq
      rw [hold _ this]; exact hy
  · by_cases ei : i = n
    · by_cases ej : j = n
      · rw [ei, ej]
      · subst ei
        rw [Ren.ext_self] at hpi; cases hpi
        rw [hup j ej] at hj; rw [hext j ej] at hqj
        have := hlt j o₂ q' hj hqj
        omega
    · by_cases ej : j = n
      · subst ej
        rw [Ren.ext_self] at hqj; cases hqj
        rw [hup i ei] at hi; rw [hext i ei] at hpi
        have := hlt i o₁ p' hi hpi
        omega
      · rw [hup i ei] at hi; rw [hup j ej] at hj; rw [hext i ei] at hpi; rw [hext j ej] at hqj
        exact r.inj i j p' q' o₁ o₂ hi hj hpi hqj e
  · exact hold b hb
  · omega
  · obtain ⟨i, o', q, hi, hq, rfl⟩ := hb
    by_cases e : i = n
    · subst e; rw [Ren.ext_self] at hq; cases hq; exact .inr (by omega)
    · rw [hup i e] at hi; rw [hext i e] at hq; exact .inl ⟨i, o', q, hi, hq, rfl⟩
  · by_cases e : i = n
    · exact .inr (by omega)
    · rw [hup i e] at hi; exact .inl ⟨o', hi⟩

/- An object in another one's place, in the same block. -/
theorem rep_set {env : Env} {ρ : Ren} {h : HF} {w w' : World} {i n : Nat} {o o' : AObj} {x : Obj} {p : Place} (r : Rep env ρ h w)
    (hi : h i = some o) (hp : ρ i = some p) (hx : w'.heap[p.block]? = some x) (ho : ORel env ρ p o' x)
    (hk : ∀ b, b ≠ p.block → w'.heap[b]? = w.heap[b]?) (hsz : w'.heap.size = w.heap.size)
    (hos : w'.os = w.os) (htape : w'.tape = w.tape) (hout : w'.output = w.output) (hnr : ∀ l, o ≠ .rom l := by intro l e; cases e) :
    Rep env ρ (h.up i (some o')) w' ∧ Grows ρ h n w ρ (h.up i (some o')) n w' := by
  have hown : ∀ b, Owned ρ (h.up i (some o')) b → Owned ρ h b := fun b ⟨j, oj, q, hj, hq, e⟩ => by
    by_cases ej : j = i
    · subst ej; exact ⟨j, o, q, hi, hq, e⟩
    · exact ⟨j, oj, q, by simpa [HF.up, ej] using hj, hq, e⟩
  have hdom : ∀ j oj, (h.up i (some o')) j = some oj → ∃ o₂, h j = some o₂ := fun j oj hj => by
    by_cases ej : j = i
    · subst ej; exact ⟨o, hi⟩
    · exact ⟨oj, by simpa [HF.up, ej] using hj⟩
  refine ⟨⟨fun j oj hj => ?_, fun j k p' q' o₁ o₂ hj hk' hpj hqk e => ?_⟩, .refl _, fun _ _ => rfl, Nat.le_refl _, fun b hb hnb => ?_, by omega, fun b hb => .inl (hown b hb), fun j oj hj => .inl (hdom j oj hj), hos, htape, hout, fun j l q hj hq => ?_⟩
  · by_cases ej : j = i
    · subst ej
      simp [HF.up] at hj; subst hj
      exact ⟨p, x, hp, hx, ho⟩
    · have hj' : h j = some oj := by simpa [HF.up, ej] using hj
      obtain ⟨q, y, hq, hy, hor⟩ := r.obj j oj hj'
      refine ⟨q, y, hq, ?_, hor⟩
      rw [hk q.block (fun e => ej (r.inj j i q p oj o hj' hi hq hp e))]; exact hy
  · obtain ⟨o₃, h₃⟩ := hdom j o₁ hj
    obtain ⟨o₄, h₄⟩ := hdom k o₂ hk'
    exact r.inj j k p' q' o₃ o₄ h₃ h₄ hpj hqk e
  · exact hk b (fun e => hnb ⟨i, o, p, hi, hp, e.symm⟩)
  · have hji : j ≠ i := fun e => by subst e; rw [hi] at hj; cases hj; exact hnr l rfl
    exact ⟨hk _ (fun e => hji (r.inj j i q p _ o hj hi hq hp e)), by simp [HF.up, hji, hj]⟩

end Go.Rx
