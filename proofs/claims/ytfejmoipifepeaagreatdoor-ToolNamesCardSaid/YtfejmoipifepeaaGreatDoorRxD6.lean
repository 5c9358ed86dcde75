/- The executor is right: all operations that look at no memory. -/
import Derived.Test.YtfejmoipifepeaaGreatDoorRxD5
set_option linter.unusedSimpArgs false
set_option linter.unusedVariables false
set_option linter.unusedSectionVars false
namespace Go.Rx
section
variable {P : Program} {env : Env} {ρ : Ren} {ev : Ev} {f : Operand → Value} {o : Oper}

theorem toV_int {k : IntKind} {n : Int} {V : Value} (h : (AV.int k n).toV env ρ = some V) : V = .int k n := by simp [AV.toV] at h; exact h.symm
theorem toV_bool {b : Bool} {V : Value} (h : (AV.bool b).toV env ρ = some V) : V = .bool b := by simp [AV.toV] at h; exact h.symm
theorem toV_str {s : List UInt8} {V : Value} (h : (AV.str s).toV env ρ = some V) : V = .string ⟨s.toArray⟩ := by simp [AV.toV] at h; exact h.symm
theorem toV_agg' {l : List AV} {V : Value} (h : (AV.agg l).toV env ρ = some V) : ∃ xs, toVs env ρ l = some xs ∧ V = .agg xs.toArray := by
  simp only [AV.toV] at h
  split at h
  · rename_i xs hx; cases h; exact ⟨xs, hx, rfl⟩
  · cases h
theorem toV_tuple' {l : List AV} {V : Value} (h : (AV.tuple l).toV env ρ = some V) : ∃ xs, toVs env ρ l = some xs ∧ V = .tuple xs.toArray := by
  simp only [AV.toV] at h
  split at h
  · rename_i xs hx; cases h; exact ⟨xs, hx, rfl⟩
  · cases h

theorem toV_slice_none {l c : Nat} {op : Bool} {V : Value} (h : (AV.slice none l c op).toV env ρ = some V) : op = false ∧ V = .slice none l c := by
  simp only [AV.toV] at h
  split at h
  · cases h
  · rename_i ho; exact ⟨by simpa using ho, (Option.some.inj h).symm⟩
theorem toV_map_none {V : Value} (h : (AV.map none).toV env ρ = some V) : V = .map none := by simp [AV.toV] at h; exact h.symm
theorem toV_map {i : Nat} {V : Value} (h : (AV.map (some i)).toV env ρ = some V) : ∃ p, ρ i = some p ∧ V = .map (some p.block) := by
  simp only [AV.toV] at h
  split at h
  · rename_i p hp; exact ⟨p, hp, (Option.some.inj h).symm⟩
  · cases h

theorem idxA_ok {x : Operand} {i : Nat} (h : idxA (ev x) = some i) (hx : ∀ v, ev x = some v → v.toV env ρ = some (f x)) : ∃ k, f x = .int k i := by
  unfold idxA at h
  split at h
  · rename_i k j he
    cases h
    exact ⟨k, toV_int (hx _ he)⟩
  · cases h

theorem pPick_ok {c a b : Operand} {v : AV} (h : pPick ev c a b = some v) (hc : ∀ v, ev c = some v → v.toV env ρ = some (f c)) (ha : ∀ v, ev a = some v → v.toV env ρ = some (f a))
    (hb : ∀ v, ev b = some v → v.toV env ρ = some (f b)) (ho : o.op = .pick c a b) : Pure P env ρ f o v := by
  unfold pPick at h
  split at h
  · rename_i he
    exact ⟨_, ha _ h, fun w => by simp [execOp, ho, toV_bool (hc _ he), asBool]⟩
  · rename_i he
    exact ⟨_, hb _ h, fun w => by simp [execOp, ho, toV_bool (hc _ he), asBool]⟩
  · cases h

theorem pBin_ok {op : BinOp} {t yt : TypeId} {x y : Operand} {v : AV} (h : pBin P ev op t x y = some v) (hx : ∀ v, ev x = some v → v.toV env ρ = some (f x)) (hy : ∀ v, ev y = some v → v.toV env ρ = some (f y))
    (ho : o.op = .binOp op t x y yt) : Pure P env ρ f o v := by
  unfold pBin at h
  split at h
  · rename_i a b ha hb
    obtain ⟨V, hV, hr⟩ := binA_ok h (hx _ ha) (hy _ hb)
    refine ⟨V, hV, fun w => ?_⟩
    have := hr w
    simp only [execOp, ho]
    change (do let r ← eqRun op t x y (f x) (f y); pure (Next.value r) : Sem Next).run P w = _
    simp [this]
  · cases h

theorem pUn_ok {op : UnOp} {t : TypeId} {x : Operand} {v : AV} (h : pUn ev op x = some v) (hx : ∀ v, ev x = some v → v.toV env ρ = some (f x)) (ho : o.op = .unOp op t x) : Pure P env ρ f o v := by
  unfold pUn at h
  split at h
  · rename_i a ha
    obtain ⟨V, hV, hr⟩ := unA_ok (P := P) h (hx _ ha)
    exact ⟨V, hV, fun w => by simp [execOp, ho, hr w]⟩
  · cases h

theorem pConv_ok {src dst : TypeId} {x : Operand} {v : AV} (hsrc : ∃ d, P.underlying src = some d) (h : pConv P ev dst x = some v) (hx : ∀ v, ev x = some v → v.toV env ρ = some (f x)) (ho : o.op = .convert src dst x) : Pure P env ρ f o v := by
  obtain ⟨d, hd⟩ := hsrc
  unfold pConv at h
  split at h
  · rename_i k k' n hu he
    cases h
    refine ⟨_, rfl, fun w => ?_⟩
    have hr : (convert src dst (.int k' n)).run P w = .ok (.int k (k.wrap n)) w := by
      unfold convert
      simp only [Sem.run_bind, run_underlying hd, run_underlying hu, Result.andThen_ok]
      simp [Conv.intToInt]
    simp [execOp, ho, toV_int (hx _ he), hr, wrapA_eq]
  · rename_i s hu he
    cases h
    refine ⟨_, rfl, fun w => ?_⟩
    have hr : (convert src dst (.string ⟨s.toArray⟩)).run P w = .ok (.string ⟨s.toArray⟩) w := by
      unfold convert
      simp only [Sem.run_bind, run_underlying hd, run_underlying hu, Result.andThen_ok]
      simp
    simp [execOp, ho, toV_str (hx _ he), hr]
  · cases h

theorem pIface_ok {t : TypeId} {x : Operand} {v : AV} (h : pIface P ev t x = some v) (hx : ∀ v, ev x = some v → v.toV env ρ = some (f x)) (ho : o.op = .makeInterface t x) : Pure P env ρ f o v := by
  unfold pIface at h
  split at h
  · cases h
  · rename_i d u hne hu he
    cases h
    refine ⟨.iface t (f x), by simp [AV.toV, hx _ he], fun w => ?_⟩
    have hr : (Instr.makeInterface t (f x)).run P w = .ok (.iface t (f x)) w := by
      unfold Instr.makeInterface
      simp only [Sem.run_bind, run_underlying hu, Result.andThen_ok]
      cases d <;> first
        | exact absurd rfl (hne _)
        | simp
    simp [execOp, ho, hr]
  · cases h

theorem pFunc_ok {fn : Fn} {first captured : Array Operand} {v : AV} (h : pFunc ev fn first captured = some v) (h1 : ∀ x ∈ first.toList, ∀ v, ev x = some v → v.toV env ρ = some (f x))
    (h2 : ∀ x ∈ captured.toList, ∀ v, ev x = some v → v.toV env ρ = some (f x)) (ho : o.op = .makeFunc fn first captured) : Pure P env ρ f o v := by
  unfold pFunc at h
  split at h
  · rename_i a b ha hb
    cases h
    refine ⟨.func fn (first.map f) (captured.map f), ?_, fun w => by simp [execOp, ho, Instr.makeFunc]⟩
    simp only [AV.toV, evs_ok h1 ha, evs_ok h2 hb]
    congr 2 <;> (apply Array.ext'; simp)
  · cases h

theorem pField_ok {t : TypeId} {x : Operand} {i : Nat} {v : AV} (h : pField P ev t x i = some v) (hx : ∀ v, ev x = some v → v.toV env ρ = some (f x)) (ho : o.op = .field t x i) : Pure P env ρ f o v := by
  unfold pField at h
  split at h
  · rename_i fs cs hu he
    split at h
    · rename_i fd hfd
      obtain ⟨xs, hxs, hX⟩ := toV_agg' (hx _ he)
      obtain ⟨V, hV, _⟩ := partA_ok h hxs default
      refine ⟨V, hV, fun w => ?_⟩
      obtain ⟨V', hV', hr⟩ := partA_ok h hxs w
      rw [hV] at hV'; cases hV'
      simp [execOp, ho, Instr.field, run_underlying hu, hfd, hX, asAgg, hr]
    · cases h
  · cases h

theorem pExtract_ok {x : Operand} {i : Nat} {v : AV} (h : pExtract ev x i = some v) (hx : ∀ v, ev x = some v → v.toV env ρ = some (f x)) (ho : o.op = .extract x i) : Pure P env ρ f o v := by
  unfold pExtract at h
  split at h
  · rename_i l he
    obtain ⟨xs, hxs, hX⟩ := toV_tuple' (hx _ he)
    obtain ⟨V, hV, hv⟩ := toVs_get hxs h
    exact ⟨V, hv, fun w => by simp [execOp, ho, Instr.extract, hX, hV]⟩
  · cases h

theorem pNil_ok {x : Operand} {v : AV} (h : pNil ev x = some v) (hx : ∀ v, ev x = some v → v.toV env ρ = some (f x)) (ho : o.op = .nilCheck x) : Pure P env ρ f o v := by
  unfold pNil at h
  split at h
  · rename_i a he
    cases h
    obtain ⟨p, hp, hX⟩ := toV_ptr (hx _ he)
    exact ⟨f x, hx _ he, fun w => by simp [execOp, ho, hX]⟩
  · rename_i g a b he
    cases h
    have := hx _ he
    refine ⟨f x, this, fun w => ?_⟩
    simp only [AV.toV] at this
    split at this
    · rename_i h1 h2
      have hX := (Option.some.inj this).symm
      simp only [execOp, ho, hX]
      rfl
    · cases this
  · cases h

theorem pFieldAddr_ok {t : TypeId} {x : Operand} {i : Nat} {v : AV} (h : pFieldAddr P ev t x i = some v) (hx : ∀ v, ev x = some v → v.toV env ρ = some (f x)) (ho : o.op = .fieldAddr t x i) : Pure P env ρ f o v := by
  unfold pFieldAddr at h
  split at h
  · rename_i fs id off hu he
    split at h
    · rename_i fd hfd
      split at h
      · rename_i inf hinf
        split at h
        · cases h
        · rename_i hz
          cases h
          have hz : ¬ inf.size = 0 := fun e => by rw [e] at hz; simp at hz
          obtain ⟨p, hp, hX⟩ := toV_ptr (hx _ he)
          refine ⟨_, toV_ptr_mk hp, fun w => ?_⟩
          simp [execOp, ho, Instr.fieldAt, run_underlying hu, hfd, hX, Instr.sureAddr, fieldPlace, run_sizeOf hinf, hz, Addr.add_plain, Nat.add_assoc]
      · cases h
    · cases h
  · cases h

theorem pIndexAddr_ok {t : TypeId} {x ix : Operand} {v : AV} (h : pIndexAddr P ev t x ix = some v) (hx : ∀ v, ev x = some v → v.toV env ρ = some (f x)) (hix : ∀ v, ev ix = some v → v.toV env ρ = some (f ix))
    (ho : o.op = .indexAddr t x ix) : Pure P env ρ f o v := by
  unfold pIndexAddr at h
  split at h
  · rename_i elem id off len c op i hu he hi
    split at h
    · rename_i e hel
      split at h
      · rename_i hlt
        cases h
        have hlt : i < len := by simpa [Nat.blt_eq] using hlt
        obtain ⟨k, hk⟩ := idxA_ok hi hix
        obtain ⟨p, hp, hX⟩ := toV_slice (hx _ he)
        refine ⟨_, toV_ptr_mk hp, fun w => ?_⟩
        have h0 : (0 : Int) ≤ (i : Int) ∧ (i : Int) < (len : Int) := by omega
        simp [execOp, ho, Instr.indexAt, hk, asIntOf, run_underlying hu, hX, h0, run_sizeOf hel, Addr.add_plain, Nat.add_assoc]
        intro hge; omega
      · cases h
    · cases h
  · rename_i len elem id off i hu he hi
    split at h
    · rename_i e hel
      split at h
      · rename_i hlt
        cases h
        have hlt : i < len := by simpa [Nat.blt_eq] using hlt
        obtain ⟨k, hk⟩ := idxA_ok hi hix
        obtain ⟨p, hp, hX⟩ := toV_ptr (hx _ he)
        refine ⟨_, toV_ptr_mk hp, fun w => ?_⟩
        have h0 : (0 : Int) ≤ (i : Int) ∧ (i : Int) < (len : Int) := by omega
        simp [execOp, ho, Instr.indexAt, hk, asIntOf, run_underlying hu, hX, Instr.sureAddr, h0, run_sizeOf hel, Addr.add_plain, Nat.add_assoc]
        intro hge; omega
      · cases h
    · cases h
  · cases h

theorem pIndex_ok {t : TypeId} {x ix : Operand} {v : AV} (h : pIndex P ev t x ix = some v) (hx : ∀ v, ev x = some v → v.toV env ρ = some (f x)) (hix : ∀ v, ev ix = some v → v.toV env ρ = some (f ix))
    (ho : o.op = .index t x ix) : Pure P env ρ f o v := by
  unfold pIndex at h
  split at h
  · rename_i s i hu he hi
    split at h
    · rename_i b hb
      cases h
      obtain ⟨k, hk⟩ := idxA_ok hi hix
      refine ⟨_, rfl, fun w => ?_⟩
      have hX := toV_str (hx _ he)
      have hget : (ByteArray.mk s.toArray)[i]? = some b := by
        have hlt : i < s.length := by
          rcases Nat.lt_or_ge i s.length with h | h
          · exact h
          · rw [List.getElem?_eq_none h] at hb; cases hb
        have hs : i < (ByteArray.mk s.toArray).size := by simpa [ByteArray.size] using hlt
        rw [getElem?_pos (ByteArray.mk s.toArray) i hs]
        rw [List.getElem?_eq_getElem hlt] at hb
        rw [← hb]
        rfl
      have h0 : (0 : Int) ≤ (i : Int) := by omega
      simp [execOp, ho, Instr.index, hk, asIntOf, run_underlying hu, hX, h0, hget]
    · cases h
  · rename_i len elem cs i hu he hi
    split at h
    · rename_i e hel
      split at h
      · rename_i hlt
        have hlt : i < len := by simpa [Nat.blt_eq] using hlt
        obtain ⟨k, hk⟩ := idxA_ok hi hix
        obtain ⟨xs, hxs, hX⟩ := toV_agg' (hx _ he)
        obtain ⟨V, hV, _⟩ := partA_ok h hxs default
        refine ⟨V, hV, fun w => ?_⟩
        obtain ⟨V', hV', hr⟩ := partA_ok h hxs w
        rw [hV] at hV'; cases hV'
        have h0 : (0 : Int) ≤ (i : Int) ∧ (i : Int) < (len : Int) := by omega
        simp [execOp, ho, Instr.index, hk, asIntOf, run_underlying hu, hX, h0, run_sizeOf hel, hr]
        intro hge; omega
      · cases h
    · cases h
  · cases h

theorem pSlice_ok {t : TypeId} {x : Operand} {lo hi mx : Option Operand} {v : AV} (h : pSlice P ev t x lo hi mx = some v) (hx : ∀ v, ev x = some v → v.toV env ρ = some (f x))
    (hl : ∀ x, lo = some x → ∀ v, ev x = some v → v.toV env ρ = some (f x)) (hh : ∀ x, hi = some x → ∀ v, ev x = some v → v.toV env ρ = some (f x))
    (hm : ∀ x, mx = some x → ∀ v, ev x = some v → v.toV env ρ = some (f x)) (ho : o.op = .slice t x lo hi mx) : Pure P env ρ f o v := by
  unfold pSlice at h
  split at h
  · rename_i u hu
    obtain ⟨V, hV, hr⟩ := sliceA_ok h hl hh hm (hx _ hu)
    exact ⟨V, hV, fun w => by simp [execOp, ho, hr w]⟩
  · cases h

theorem pBuild_ok {t : TypeId} {parts : Array (Nat × Operand)} {v : AV} (h : pBuild P ev t parts = some v) (hp : ∀ p ∈ parts.toList, ∀ v, ev p.2 = some v → v.toV env ρ = some (f p.2)) (ho : o.op = .build t parts) : Pure P env ρ f o v := by
  unfold pBuild at h
  split at h
  · rename_i l hl
    obtain ⟨h1, h2⟩ := evPairs_ok hp hl
    obtain ⟨V, hV, hr⟩ := buildA_ok (vals := parts.map fun p => (p.1, f p.2)) h (by simp [h1]) (by simpa using h2)
    exact ⟨V, hV, fun w => by
      have := hr w
      simp only [execOp, ho]
      simp only [Sem.run_bind]
      rw [show (parts.map fun (x : Nat × Operand) => match x with | (i, x) => (i, f x)) = parts.map fun p => (p.1, f p.2) from rfl, this]
      rfl⟩
  · cases h

theorem pLen_ok {c : Call} {v : AV} (hc : c.callee = .builtin .len) (h : pLen P ev c.argTypes c.args = some v) (hx : ∀ x ∈ c.args.toList, ∀ v, ev x = some v → v.toV env ρ = some (f x)) (ho : o.op = .call c) : Pure P env ρ f o v := by
  unfold pLen at h
  split at h
  · rename_i t x ht ha
    split at h
    · rename_i u hu
      split at h
      · rename_i n hn
        cases h
        refine ⟨_, rfl, fun w => ?_⟩
        have hfx := hx x (by simp [ha]) _ hu
        have hargs : c.args.map f = #[f x] := by apply Array.ext'; simp [ha]
        have key : ∀ ty, (Builtin.len_ c.argTypes ty #[f x]).run P w = .ok (.int .i64 n) w := by
          intro ty
          unfold lenA at hn
          unfold Builtin.len_
          simp only [ht]
          split at hn
          · rename_i s hut; cases hn
            rw [toV_str hfx]
            have hsz : (ByteArray.mk s.toArray).size = s.length := by simp [ByteArray.size]
            simp [run_underlying hut, goInt, hsz]
          · rename_i m e hut; cases hn
            simp [run_underlying hut, goInt]
          · rename_i e a m cp op hut; cases hn
            cases a with
            | none => obtain ⟨_, hX⟩ := toV_slice_none hfx; rw [hX]; simp [run_underlying hut, goInt]
            | some a => obtain ⟨p, hp, hX⟩ := toV_slice hfx; rw [hX]; simp [run_underlying hut, goInt]
          · rename_i k e hut; cases hn
            rw [toV_map_none hfx]; simp [run_underlying hut, goInt]
          · cases hn
        simp [execOp, ho, resolve, hc, invoke, builtin, hargs, key]
      · cases h
    · cases h
  · cases h

theorem pCap_ok {c : Call} {v : AV} (hc : c.callee = .builtin .cap) (h : pCap P ev c.argTypes c.args = some v) (hx : ∀ x ∈ c.args.toList, ∀ v, ev x = some v → v.toV env ρ = some (f x)) (ho : o.op = .call c) : Pure P env ρ f o v := by
  unfold pCap at h
  split at h
  · rename_i t x ht ha
    split at h
    · rename_i e a l n hut hu
      cases h
      refine ⟨_, rfl, fun w => ?_⟩
      have hfx := hx x (by simp [ha]) _ hu
      have hargs : c.args.map f = #[f x] := by apply Array.ext'; simp [ha]
      have key : ∀ ty, (Builtin.cap_ c.argTypes ty #[f x]).run P w = .ok (.int .i64 n) w := by
        intro ty
        unfold Builtin.cap_
        simp only [ht]
        cases a with
        | none => obtain ⟨_, hX⟩ := toV_slice_none hfx; rw [hX]; simp [run_underlying hut, goInt]
        | some a => obtain ⟨p, hp, hX⟩ := toV_slice hfx; rw [hX]; simp [run_underlying hut, goInt]
      simp [execOp, ho, resolve, hc, invoke, builtin, hargs, key]
    · cases h
  · cases h

theorem pMin_ok {c : Call} {v : AV} (hc : c.callee = .builtin .min) (h : pMin ev c.args = some v) (hx : ∀ x ∈ c.args.toList, ∀ v, ev x = some v → v.toV env ρ = some (f x)) (ho : o.op = .call c) : Pure P env ρ f o v := by
  unfold pMin at h
  split at h
  · rename_i x y ha
    split at h
    · rename_i k a k' b hxa hyb
      cases h
      refine ⟨_, rfl, fun w => ?_⟩
      have hfx := toV_int (hx x (by simp [ha]) _ hxa)
      have hfy := toV_int (hx y (by simp [ha]) _ hyb)
      have hargs : c.args.map f = #[f x, f y] := by apply Array.ext'; simp [ha]
      simp [execOp, ho, resolve, hc, invoke, builtin, hargs, hfx, hfy, Builtin.min_, Builtin.min2]
    · cases h
  · cases h

theorem pMax_ok {c : Call} {v : AV} (hc : c.callee = .builtin .max) (h : pMax ev c.args = some v) (hx : ∀ x ∈ c.args.toList, ∀ v, ev x = some v → v.toV env ρ = some (f x)) (ho : o.op = .call c) : Pure P env ρ f o v := by
  unfold pMax at h
  split at h
  · rename_i x y ha
    split at h
    · rename_i k a k' b hxa hyb
      cases h
      refine ⟨_, rfl, fun w => ?_⟩
      have hfx := toV_int (hx x (by simp [ha]) _ hxa)
      have hfy := toV_int (hx y (by simp [ha]) _ hyb)
      have hargs : c.args.map f = #[f x, f y] := by apply Array.ext'; simp [ha]
      simp [execOp, ho, resolve, hc, invoke, builtin, hargs, hfx, hfy, Builtin.max_, Builtin.max2]
    · cases h
  · cases h


/- All of them. ('convert' wants its source's type to be there.) -/
def srcOk (P : Program) : Op → Prop
  | .convert src _ _ => ∃ d, P.underlying src = some d
  | _ => True

theorem evalP_ok {v : AV} (h : evalP P ev o.op = some v) (hev : EvOk env ρ ev f o.op.operands) (hsrc : srcOk P o.op) : Pure P env ρ f o v := by
  generalize ho : o.op = op at *
  cases op <;> simp only [evalP] at h <;> first
    | (cases h; done)
    | skip
  case move x => exact ⟨f x, hev x (by simp [Op.operands]) _ h, fun w => by simp [execOp, ho]⟩
  case assign x => exact ⟨f x, hev x (by simp [Op.operands]) _ h, fun w => by simp [execOp, ho]⟩
  case pick c a b => exact pPick_ok h (hev c (by simp [Op.operands])) (hev a (by simp [Op.operands])) (hev b (by simp [Op.operands])) ho
  case binOp op t x y yt => exact pBin_ok h (hev x (by simp [Op.operands])) (hev y (by simp [Op.operands])) ho
  case unOp op t x => exact pUn_ok h (hev x (by simp [Op.operands])) ho
  case convert src dst x => exact pConv_ok hsrc h (hev x (by simp [Op.operands])) ho
  case makeInterface t x => exact pIface_ok h (hev x (by simp [Op.operands])) ho
  case makeFunc fn a b => exact pFunc_ok h (fun x hx => hev x (by simp [Op.operands]; exact .inl (by simpa using hx))) (fun x hx => hev x (by simp [Op.operands]; exact .inr (by simpa using hx))) ho
  case field t x i => exact pField_ok h (hev x (by simp [Op.operands])) ho
  case extract x i => exact pExtract_ok h (hev x (by simp [Op.operands])) ho
  case nilCheck x => exact pNil_ok h (hev x (by simp [Op.operands])) ho
  case fieldAddr t x i => exact pFieldAddr_ok h (hev x (by simp [Op.operands])) ho
  case indexAddr t x ix => exact pIndexAddr_ok h (hev x (by simp [Op.operands])) (hev ix (by simp [Op.operands])) ho
  case index t x ix => exact pIndex_ok h (hev x (by simp [Op.operands])) (hev ix (by simp [Op.operands])) ho
  case slice t x lo hi mx =>
    refine pSlice_ok h (hev x (by simp [Op.operands])) (fun y hy => hev y ?_) (fun y hy => hev y ?_) (fun y hy => hev y ?_) ho <;> subst hy <;> simp [Op.operands]
  case build t parts =>
    refine pBuild_ok h (fun p hp => hev p.2 ?_) ho
    simp only [Op.operands, List.mem_toArray, List.mem_map]
    exact ⟨p, hp, rfl⟩
  case call c =>
    have hargs : ∀ x ∈ c.args.toList, ∀ v, ev x = some v → v.toV env ρ = some (f x) := fun x hx => hev x (by simp only [Op.operands, Call.operands, Array.mem_append]; exact .inr (by simpa using hx))
    unfold pCall at h
    split at h
    · rename_i hc; exact pLen_ok hc h hargs ho
    · rename_i hc; exact pCap_ok hc h hargs ho
    · rename_i hc; exact pMin_ok hc h hargs ho
    · rename_i hc; exact pMax_ok hc h hargs ho
    · cases h
end
end Go.Rx
