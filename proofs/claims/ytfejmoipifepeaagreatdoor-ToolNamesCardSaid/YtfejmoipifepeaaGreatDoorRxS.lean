/- The executor is right: operations on values that have but names. -/
import Derived.Test.YtfejmoipifepeaaGreatDoorRxD6
set_option linter.unusedSimpArgs false
set_option linter.unusedVariables false
set_option linter.unusedSectionVars false
namespace Go.Rx

structure SymOk (env : Env) (G : Cfg) : Prop where
  rng : ∀ (n : Nat) (a b : Int), G.rng n = some (a, b) → ∃ x, env.int n = some x ∧ a ≤ x ∧ x ≤ b
  len : ∀ (n : Nat) (s : List UInt8) (x : Int), env.str n = some s → env.int n = some x → x = s.length
  has : ∀ (n : Nat) (s : List UInt8), env.str n = some s → ∃ x, env.int n = some x
  ne : ∀ (n : Nat) (s u : List UInt8), env.str n = some s → u ∈ G.ne n → s ≠ u
  sl : ∀ (n : Nat) (V : Value) (x : Int), G.sl n = true → env.val n = some V → env.int n = some x → ∃ a len cap, V = .slice a len cap ∧ x = (len : Int)

section
variable {P : Program} {env : Env} {ρ : Ren} {G : Cfg} {ev : Ev} {f : Operand → Value} {o : Oper}

theorem segs_lit {s : List UInt8} {l : List Seg} {r : List UInt8} (h : segs env (.lit s :: l) = some r) : ∃ t, segs env l = some t ∧ r = s ++ t := by
  simp only [segs] at h
  split at h
  · rename_i t ht; cases h; exact ⟨t, ht, rfl⟩
  · cases h

theorem segs_var {n : Nat} {l : List Seg} {r : List UInt8} (h : segs env (.var n :: l) = some r) : ∃ s t, env.str n = some s ∧ segs env l = some t ∧ r = s ++ t := by
  simp only [segs] at h
  split at h
  · rename_i s t hs ht; cases h; exact ⟨s, t, hs, ht, rfl⟩
  · cases h

theorem consSeg_ok {s : Seg} {l : List Seg} {r : List UInt8} (h : segs env (s :: l) = some r) : segs env (consSeg s l) = some r := by
  unfold consSeg
  split
  · obtain ⟨t, ht, rfl⟩ := segs_lit h; simpa using ht
  · rename_i x y l _
    obtain ⟨t, ht, rfl⟩ := segs_lit h
    obtain ⟨u, hu, rfl⟩ := segs_lit ht
    simp [segs, hu]
  · exact h

theorem segs_cat : ∀ {a b : List Seg} {s t : List UInt8}, segs env a = some s → segs env b = some t → segs env (catSegs a b) = some (s ++ t)
  | [], b, s, t, ha, hb => by simp [segs] at ha; subst ha; simpa [catSegs] using hb
  | .lit x :: a, b, s, t, ha, hb => by
    obtain ⟨u, hu, rfl⟩ := segs_lit ha
    have := segs_cat hu hb
    simp only [catSegs, List.foldr_cons] at this ⊢
    exact consSeg_ok (by simp [segs, this])
  | .var n :: a, b, s, t, ha, hb => by
    obtain ⟨x, u, hx, hu, rfl⟩ := segs_var ha
    have := segs_cat hu hb
    simp only [catSegs, List.foldr_cons] at this ⊢
    exact consSeg_ok (by simp [segs, hx, this])

theorem strOf_ok {l : List Seg} {s : List UInt8} (h : segs env l = some s) : (strOf l).toV env ρ = some (.string ⟨s.toArray⟩) := by
  unfold strOf
  split
  · simp [segs] at h; subst h; rfl
  · obtain ⟨t, ht, rfl⟩ := segs_lit h
    simp [segs] at ht; subst ht; simp [AV.toV]
  · simp [AV.toV, h]

theorem segsOf_ok {a : AV} {l : List Seg} {A : Value} (h : segsOf a = some l) (ha : a.toV env ρ = some A) : ∃ s, segs env l = some s ∧ A = .string ⟨s.toArray⟩ := by
  unfold segsOf at h
  split at h
  · cases h; rw [toV_str ha]; exact ⟨_, by simp [segs], rfl⟩
  · cases h
    simp only [AV.toV] at ha
    split at ha
    · rename_i s hs; cases ha; exact ⟨s, hs, rfl⟩
    · cases ha
  · cases h

theorem lenRng_ok (hG : SymOk env G) : ∀ {l : List Seg} {a b : Int} {s : List UInt8}, lenRng G l = some (a, b) → segs env l = some s → a ≤ s.length ∧ (s.length : Int) ≤ b
  | [], a, b, s, h, hs => by simp [lenRng] at h; simp [segs] at hs; subst hs; simp; omega
  | .lit x :: l, a, b, s, h, hs => by
    obtain ⟨t, ht, rfl⟩ := segs_lit hs
    simp only [lenRng] at h
    split at h
    · rename_i p q hpq
      cases h
      have := lenRng_ok hG hpq ht
      simp; omega
    · cases h
  | .var n :: l, a, b, s, h, hs => by
    obtain ⟨x, t, hx, ht, rfl⟩ := segs_var hs
    simp only [lenRng] at h
    split at h
    · rename_i p q p' q' hr hpq
      cases h
      have h1 := lenRng_ok hG hpq ht
      obtain ⟨y, hy, h2, h3⟩ := hG.rng n _ _ hr
      have := hG.len n x y hx hy
      simp; omega
    · cases h

theorem strEq_ok (hG : SymOk env G) {a b : List Seg} {r : Bool} {s t : List UInt8} (h : strEq G a b = some r) (ha : segs env a = some s) (hb : segs env b = some t) : eqB s t = r := by
  have diff : s ≠ t → eqB s t = false := fun hne => by rw [eqB_eq]; simp [hne]
  unfold strEq at h
  split at h
  · rename_i he
    cases h
    have := eqSegs_ok he
    subst this
    rw [ha] at hb; cases hb
    rw [eqB_eq]; simp
  · split at h
    · rename_i al ah bl bh h1 h2
      have l1 := lenRng_ok hG h1 ha
      have l2 := lenRng_ok hG h2 hb
      split at h
      · rename_i hlt
        cases h
        refine diff fun e => ?_
        subst e
        simp only [Bool.or_eq_true, decide_eq_true_eq] at hlt
        omega
      · split at h
        · rename_i n x
          split at h
          · rename_i hany
            cases h
            obtain ⟨y, u, hy, hu, rfl⟩ := segs_var ha
            obtain ⟨v, hv, rfl⟩ := segs_lit hb
            simp [segs] at hu hv; subst hu; subst hv
            obtain ⟨z, hz, e⟩ := List.any_eq_true.1 hany
            rw [eqB_eq, beq_iff_eq] at e
            subst e
            exact diff (by simpa using hG.ne _ y _ hy hz)
          · cases h
        · rename_i x n
          split at h
          · rename_i hany
            cases h
            obtain ⟨y, u, hy, hu, rfl⟩ := segs_var hb
            obtain ⟨v, hv, rfl⟩ := segs_lit ha
            simp [segs] at hu hv; subst hu; subst hv
            obtain ⟨z, hz, e⟩ := List.any_eq_true.1 hany
            rw [eqB_eq, beq_iff_eq] at e
            subst e
            exact diff (by simpa using (hG.ne _ y _ hy hz).symm)
          · cases h
        · cases h
    · cases h

/- y is c + m * x. -/
def LinIs (env : Env) (c m : Int) (n : Nat) (y : Int) : Prop := (m = 0 ∧ y = c) ∨ ∃ x, env.int n = some x ∧ y = c + m * x

theorem linOf_ok {a : AV} {k : IntKind} {c m : Int} {n : Nat} {A : Value} (h : linOf a = some (k, c, m, n)) (ha : a.toV env ρ = some A) : ∃ y, A = .int k y ∧ LinIs env c m n y := by
  unfold linOf at h
  split at h
  · cases h; rw [toV_int ha]; exact ⟨_, rfl, .inl ⟨rfl, rfl⟩⟩
  · cases h
    simp only [AV.toV] at ha
    split at ha
    · rename_i x hx; cases ha; exact ⟨_, rfl, .inr ⟨x, hx, rfl⟩⟩
    · cases ha
  · cases h

theorem linRng_ok (hG : SymOk env G) {c m : Int} {n : Nat} {a b y : Int} (h : linRng G c m n = some (a, b)) (hy : LinIs env c m n y) : a ≤ y ∧ y ≤ b := by
  unfold linRng at h
  split at h
  · rename_i hm
    cases h
    have hm : m = 0 := by simpa using hm
    rcases hy with ⟨_, e⟩ | ⟨x, _, e⟩
    · omega
    · subst hm; simp at e; omega
  · rename_i hm
    have hm : m ≠ 0 := by simpa using hm
    split at h
    · rename_i p q hr
      obtain ⟨x, hx, h1, h2⟩ := hG.rng n _ _ hr
      rcases hy with ⟨e, _⟩ | ⟨x', hx', e⟩
      · exact absurd e hm
      · rw [hx] at hx'; cases hx'
        split at h
        · rename_i hpos
          cases h
          have e1 := Int.mul_le_mul_of_nonneg_left h1 (by omega : 0 ≤ m)
          have e2 := Int.mul_le_mul_of_nonneg_left h2 (by omega : 0 ≤ m)
          omega
        · rename_i hneg
          cases h
          have e1 := Int.mul_le_mul_of_nonpos_left (by omega : m ≤ 0) h1
          have e2 := Int.mul_le_mul_of_nonpos_left (by omega : m ≤ 0) h2
          omega
    · cases h

theorem fits_mono {k : IntKind} {a b y : Int} (ha : fits k a = true) (hb : fits k b = true) (h1 : a ≤ y) (h2 : y ≤ b) : fits k y = true := by
  cases k <;> cases a <;> cases b <;> cases y <;> simp only [fits, Nat.blt_eq, Bool.false_eq_true, Int.ofNat_eq_natCast] at * <;> omega

theorem linMk_ok (hG : SymOk env G) {k : IntKind} {c m : Int} {n : Nat} {v : AV} {y : Int} (h : linMk G k c m n = some v) (hy : LinIs env c m n y) : v.toV env ρ = some (.int k y) ∧ wrapA k y = y := by
  unfold linMk at h
  split at h
  · rename_i a b hr
    have hb := linRng_ok hG hr hy
    split at h
    · rename_i hf
      simp only [Bool.and_eq_true] at hf
      have hfy := fits_mono hf.1 hf.2 hb.1 hb.2
      refine ⟨?_, by simp [wrapA, hfy]⟩
      split at h
      · rename_i hm
        cases h
        have hm : m = 0 := by simpa using hm
        rcases hy with ⟨_, e⟩ | ⟨x, _, e⟩
        · rw [e]; rfl
        · subst hm; simp at e; rw [e]; rfl
      · rename_i hm
        cases h
        rcases hy with ⟨e, _⟩ | ⟨x, hx, e⟩
        · exact absurd e (by simpa using hm)
        · simp [AV.toV, hx, e]
    · cases h
  · cases h

theorem linIs_comb {c d m p : Int} {n q : Nat} {y z : Int} (h : (m == 0 || p == 0 || Nat.beq n q) = true) (hy : LinIs env c m n y) (hz : LinIs env d p q z) :
    LinIs env (c + d) (m + p) (if m == 0 then q else n) (y + z) ∧ LinIs env (c - d) (m - p) (if m == 0 then q else n) (y - z) := by
  simp only [Bool.or_eq_true, beq_iff_eq, Nat.beq_eq] at h
  rcases hy with ⟨rfl, rfl⟩ | ⟨x, hx, rfl⟩
  · rcases hz with ⟨rfl, rfl⟩ | ⟨u, hu, rfl⟩
    · exact ⟨.inl ⟨rfl, rfl⟩, .inl ⟨rfl, rfl⟩⟩
    · refine ⟨.inr ⟨u, by simpa using hu, by simp; omega⟩, .inr ⟨u, by simpa using hu, ?_⟩⟩
      rw [Int.zero_sub, Int.neg_mul]; omega
  · by_cases hm : m = 0
    · subst hm
      rcases hz with ⟨rfl, rfl⟩ | ⟨u, hu, rfl⟩
      · exact ⟨.inl ⟨rfl, by simp⟩, .inl ⟨rfl, by simp⟩⟩
      · refine ⟨.inr ⟨u, by simpa using hu, by simp; omega⟩, .inr ⟨u, by simpa using hu, ?_⟩⟩
        rw [Int.zero_sub, Int.neg_mul]; simp; omega
    · have e : (if (m == 0) = true then q else n) = n := by simp [hm]
      rw [e]
      rcases hz with ⟨rfl, rfl⟩ | ⟨u, hu, rfl⟩
      · exact ⟨.inr ⟨x, hx, by simp; omega⟩, .inr ⟨x, hx, by simp; omega⟩⟩
      · by_cases hp : p = 0
        · subst hp
          exact ⟨.inr ⟨x, hx, by simp; omega⟩, .inr ⟨x, hx, by simp; omega⟩⟩
        · have hnq : n = q := by
            rcases h with (h | h) | h
            · exact absurd h hm
            · exact absurd h hp
            · exact h
          subst hnq
          rw [hx] at hu; cases hu
          refine ⟨.inr ⟨x, hx, ?_⟩, .inr ⟨x, hx, ?_⟩⟩
          · rw [Int.add_mul]; omega
          · rw [Int.sub_mul]; omega

theorem linCmp_ok (hG : SymOk env G) {op : BinOp} {c m : Int} {n : Nat} {r : Bool} {x y : Int} (h : linCmp G op c m n = some r) (hy : LinIs env c m n (x - y)) (k : IntKind) : intA op k x y = some (.bool r) := by
  unfold linCmp at h
  split at h
  · rename_i a b hr
    have hb := linRng_ok hG hr hy
    have hzero : (m == 0 && c == 0) = true → x - y = 0 := fun e => by
      simp only [Bool.and_eq_true, beq_iff_eq] at e
      obtain ⟨rfl, rfl⟩ := e
      rcases hy with ⟨_, e⟩ | ⟨u, _, e⟩
      · exact e
      · simp at e; exact e
    split at h
    · split at h
      · cases h; simp [intA]; omega
      · split at h
        · cases h; simp [intA]; omega
        · cases h
    · split at h
      · cases h; simp [intA]; omega
      · split at h
        · cases h; simp [intA]; omega
        · cases h
    · split at h
      · cases h; simp [intA]; omega
      · split at h
        · cases h; simp [intA]; omega
        · cases h
    · split at h
      · cases h; simp [intA]; omega
      · split at h
        · cases h; simp [intA]; omega
        · cases h
    · split at h
      · rename_i hc
        cases h
        simp only [Bool.or_eq_true, decide_eq_true_eq] at hc
        simp [intA]; omega
      · split at h
        · rename_i hz; cases h; have := hzero hz; simp [intA]; omega
        · cases h
    · split at h
      · rename_i hc
        cases h
        simp only [Bool.or_eq_true, decide_eq_true_eq] at hc
        simp [intA]; omega
      · split at h
        · rename_i hz; cases h; have := hzero hz; simp [intA]; omega
        · cases h
    · cases h
  · cases h

theorem symBin_ok (hG : SymOk env G) {op : BinOp} {a b v : AV} (h : symBin G op a b = some v) {A B : Value} (ha : a.toV env ρ = some A) (hb : b.toV env ρ = some B) (t : TypeId) (x y : Operand) :
    ∃ V, v.toV env ρ = some V ∧ ∀ w, (eqRun op t x y A B).run P w = .ok V w := by
  unfold symBin at h
  split at h
  · rename_i la lb hla hlb
    obtain ⟨s, hs, rfl⟩ := segsOf_ok hla ha
    obtain ⟨u, hu, rfl⟩ := segsOf_ok hlb hb
    have run : ∀ v', strA op s u = some v' → v'.toV env ρ = v.toV env ρ → ∃ V, v.toV env ρ = some V ∧ ∀ w, (eqRun op t x y (.string ⟨s.toArray⟩) (.string ⟨u.toArray⟩)).run P w = .ok V w := by
      intro v' hv' e
      obtain ⟨V, hV, _⟩ := strA_ok (P := P) (env := env) (ρ := ρ) hv' t default
      refine ⟨V, by rw [← e]; exact hV, fun w => ?_⟩
      obtain ⟨V', hV', hr'⟩ := strA_ok (P := P) (env := env) (ρ := ρ) hv' t w
      rw [hV] at hV'; cases hV'
      rw [eqRun_str]; exact hr'
    split at h
    · split at h
      · rename_i p q p' q' h1 h2
        split at h
        · rename_i hle
          cases h
          have l1 := lenRng_ok hG h1 hs
          have l2 := lenRng_ok hG h2 hu
          refine run (.str (s ++ u)) ?_ ?_
          · have : Nat.ble (s.length + u.length) 9223372036854775807 = true := by rw [Nat.ble_eq]; omega
            simp [strA, this]
          · rw [strOf_ok (segs_cat hs hu)]; rfl
        · cases h
      · cases h
    · split at h
      · rename_i r hr; cases h
        exact run (.bool r) (by simp only [strA, strEq_ok hG hr hs hu]) rfl
      · cases h
    · split at h
      · rename_i r hr; cases h
        exact run (.bool !r) (by simp only [strA, strEq_ok hG hr hs hu]) rfl
      · cases h
    · cases h
  · split at h
    · rename_i k c m n l d p q hla hlb
      split at h
      · rename_i hk
        subst hk
        obtain ⟨X, rfl, hX⟩ := linOf_ok hla ha
        obtain ⟨Y, rfl, hY⟩ := linOf_ok hlb hb
        have run : ∀ v', intA op k X Y = some v' → v'.toV env ρ = v.toV env ρ → ∃ V, v.toV env ρ = some V ∧ ∀ w, (eqRun op t x y (.int k X) (.int k Y)).run P w = .ok V w := by
          intro v' hv' e
          obtain ⟨V, hV, _⟩ := intA_ok (P := P) (env := env) (ρ := ρ) hv' t default
          refine ⟨V, by rw [← e]; exact hV, fun w => ?_⟩
          obtain ⟨V', hV', hr'⟩ := intA_ok (P := P) (env := env) (ρ := ρ) hv' t w
          rw [hV] at hV'; cases hV'
          rw [eqRun_int]; exact hr'
        unfold linBin at h
        split at h
        · cases h
        · rename_i hc
          have hc : (m == 0 || p == 0 || Nat.beq n q) = true := by
            cases e : (m == 0 || p == 0 || Nat.beq n q) with
            | true => rfl
            | false => rw [e] at hc; simp at hc
          obtain ⟨hadd, hsub⟩ := linIs_comb hc hX hY
          simp only at h
          split at h
          · obtain ⟨e1, e2⟩ := linMk_ok (ρ := ρ) hG h hadd
            exact run (.int k (wrapA k (X + Y))) rfl (by rw [e1, e2]; rfl)
          · obtain ⟨e1, e2⟩ := linMk_ok (ρ := ρ) hG h hsub
            exact run (.int k (wrapA k (X - Y))) rfl (by rw [e1, e2]; rfl)
          · split at h
            · rename_i r hr; cases h
              exact run (.bool r) (linCmp_ok hG hr hsub k) rfl
            · cases h
      · cases h
    · cases h

theorem lenSegs_ok (hG : SymOk env G) : ∀ {l : List Seg} {c m : Int} {n : Nat} {s : List UInt8}, lenSegs l = some (c, m, n) → segs env l = some s → LinIs env c m n s.length
  | [], c, m, n, s, h, hs => by simp [lenSegs] at h; simp [segs] at hs; subst hs; obtain ⟨rfl, rfl, rfl⟩ := h; exact .inl ⟨rfl, rfl⟩
  | .lit x :: l, c, m, n, s, h, hs => by
    obtain ⟨t, ht, rfl⟩ := segs_lit hs
    simp only [lenSegs] at h
    split at h
    · rename_i c' m' n' h'
      cases h
      rcases lenSegs_ok hG h' ht with ⟨e1, e2⟩ | ⟨y, hy, e⟩
      · exact .inl ⟨e1, by simp; omega⟩
      · exact .inr ⟨y, hy, by simp; omega⟩
    · cases h
  | .var k :: l, c, m, n, s, h, hs => by
    obtain ⟨x, t, hx, ht, rfl⟩ := segs_var hs
    simp only [lenSegs] at h
    split at h
    · rename_i c' m' n' h'
      split at h
      · rename_i hk
        cases h
        obtain ⟨y, hy⟩ := hG.has k x hx
        have hl := hG.len k x y hx hy
        simp only [Bool.or_eq_true, beq_iff_eq, Nat.beq_eq] at hk
        refine .inr ⟨y, hy, ?_⟩
        rcases lenSegs_ok hG h' ht with ⟨e1, e2⟩ | ⟨z, hz, e⟩
        · subst e1; simp; omega
        · rcases hk with hk | hk
          · subst hk; simp at e ⊢; omega
          · subst hk
            rw [hy] at hz; cases hz
            rw [Int.add_mul]; simp; omega
      · cases h
    · cases h

theorem symLen_ok (hG : SymOk env G) {t : TypeId} {a v : AV} (h : symLen P G t a = some v) {A : Value} (ha : a.toV env ρ = some A) (ts : Array TypeId) (ht : ts[0]? = some t) (ty : TypeId) :
    ∃ V, v.toV env ρ = some V ∧ ∀ w, (Builtin.len_ ts ty #[A]).run P w = .ok V w := by
  unfold symLen at h
  split at h
  · rename_i l hu
    split at h
    · rename_i c m n hl
      obtain ⟨s, hs, rfl⟩ := segsOf_ok (l := l) rfl ha
      have := (linMk_ok (ρ := ρ) hG h (lenSegs_ok hG hl hs)).1
      refine ⟨_, this, fun w => ?_⟩
      have hsz : (ByteArray.mk s.toArray).size = s.length := by simp [ByteArray.size]
      unfold Builtin.len_
      simp [ht, run_underlying hu, goInt, hsz]
    · cases h
  · rename_i e n hu
    split at h
    · rename_i hsl
      simp only [AV.toV] at ha
      split at ha
      · rename_i X hX
        split at ha
        · cases ha
          unfold linMk at h
          cases hi : env.int n with
          | none =>
            split at h
            · rename_i a b hr
              unfold linRng at hr
              simp at hr
              split at hr
              · rename_i p q hq
                obtain ⟨x, hx, _⟩ := hG.rng n _ _ hq
                rw [hi] at hx; cases hx
              · cases hr
            · cases h
          | some x =>
            obtain ⟨b, len, cap, rfl, rfl⟩ := hG.sl n _ x hsl hX hi
            have := (linMk_ok (ρ := ρ) hG (v := v) (k := .i64) (c := 0) (m := 1) (n := n) (y := (len : Int)) h (.inr ⟨_, hi, by omega⟩)).1
            refine ⟨_, this, fun w => ?_⟩
            unfold Builtin.len_
            simp [ht, run_underlying hu, goInt]
        · cases ha
      · cases ha
    · cases h
  · cases h

theorem symP_ok (hG : SymOk env G) {v : AV} (h : symP P G ev o.op = some v) (hev : EvOk env ρ ev f o.op.operands) : Pure P env ρ f o v := by
  generalize ho : o.op = op at *
  unfold symP at h
  split at h
  · rename_i op t x y yt
    split at h
    · rename_i a b ha hb
      obtain ⟨V, hV, hr⟩ := symBin_ok (P := P) hG h (hev x (by simp [Op.operands]) _ ha) (hev y (by simp [Op.operands]) _ hb) t x y
      refine ⟨V, hV, fun w => ?_⟩
      have := hr w
      simp only [execOp, ho]
      change (do let r ← eqRun op t x y (f x) (f y); pure (Next.value r) : Sem Next).run P w = _
      simp [this]
    · cases h
  · rename_i c
    split at h
    · rename_i hc
      split at h
      · rename_i t x ht ha
        split at h
        · rename_i u hu
          have hargs : c.args.map f = #[f x] := by apply Array.ext'; simp [ha]
          have hfx := hev x (by simp only [Op.operands, Call.operands, Array.mem_append]; exact .inr (by rw [← Array.mem_toList_iff, ha]; simp)) _ hu
          obtain ⟨V, hV, hr⟩ := symLen_ok (P := P) hG h hfx c.argTypes ht o.type
          refine ⟨V, hV, fun w => ?_⟩
          have := hr w
          simp [execOp, ho, resolve, hc, invoke, builtin, hargs, this]
        · cases h
      · cases h
    · cases h
  · cases h

theorem evalPS_ok (hG : SymOk env G) {v : AV} (h : evalPS P G ev o.op = some v) (hev : EvOk env ρ ev f o.op.operands) (hsrc : srcOk P o.op) : Pure P env ρ f o v := by
  unfold evalPS at h
  split at h
  · rename_i u hu; cases h; exact evalP_ok hu hev hsrc
  · exact symP_ok hG h hev
end
end Go.Rx
